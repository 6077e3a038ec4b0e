import Derived.Test.YtgajeebphoiphaaGreatDoorC2b
import Derived.Test.YtgajeebphoiphaaGreatDoorC2c
set_option linter.unusedVariables false
set_option linter.unusedSimpArgs false
noncomputable section
open Go.IntKind (i64 u32)
namespace Go.Proofs.YtgajeebphoiphaaGreatDoor
open Go.RowKit
def k22:Fk 22:=aF (aL (.p .sCallsCalls) fun a0=>aL (.i .i64) fun a1=>aL (.i .i64) fun a2=>aS .sContext fun a3=>aE (zMS a0 a1 a2 a3))
def k47:Fk 47:=aF (aS .sConfig fun a0=>aE (zNe a0))
def k70:Fk 70:=aF (aS .sConfig fun a0=>aE (zNB a0))
def k71:Fk 71:=aF (aS .sConfig fun a0=>aE (zNC a0))
def g106(args:List AV)(hp:List Blk):Option Rsp:=
 match args,hp with
 | [a0,.ref 0 0,a2],[.cells 112 [.own 1],.arr 46 (.i .u32) y0]=>(rdL (.p .sDeviceDevices) a0).bind fun b0=>(rdL (.i .i64) a2).bind fun b2=>some ⟨zFW,(zm6 b0 b2 y0),zFf,default⟩
 | _,_=>none
def k106:Fk 106:=⟨g106,fun args hp y h x hx=>by
 unfold g106 at h
 split at h
 . simp only[Option.bind_eq_some_iff]at h
   obtain ⟨b0,h0,b2,h2,h⟩:=h
   cases h;exact(zHw b0 b2 _).ats (.cons (z8 h0) (.cons (fun _ _ _ _ h=>h) (.cons (z8 h2) .nil))) hx
 . cases h⟩
def k121:Fk 121:=aF (aS .sConfig fun a0=>aL (.i .i64) fun a1=>aE (zHF a0 a1))
def k122:Fk 122:=aF (aP .sConfig fun a0=>aP (.i .i64) fun a1=>aE (zAX a0 a1))
def k124:Fk 124:=aF (aP .sConfig fun a0=>aP (.i .i64) fun a1=>aE (zAY a0 a1))
def k136:Fk 136:=aF (aS .sConfig fun a0=>aL (.i .i64) fun a1=>aL (.i .i64) fun a2=>aE (zHN a0 a1 a2))
def g161(args:List AV)(hp:List Blk):Option Rsp:=
 match args,hp with
 | [a0,.ref 0 0,a2,a3],[.cells 112 [.own 1],.arr 46 (.i .u32) y0]=>(rdL (.p .sHealthWards) a0).bind fun b0=>(rdL (.i .i64) a2).bind fun b2=>(rdL .b a3).bind fun b3=>some ⟨zF1,(znf b0 b2 b3 y0),zFk,default⟩
 | _,_=>none
def k161:Fk 161:=⟨g161,fun args hp y h x hx=>by
 unfold g161 at h
 split at h
 . simp only[Option.bind_eq_some_iff]at h
   obtain ⟨b0,h0,b2,h2,b3,h3,h⟩:=h
   cases h;exact(zIc b0 b2 b3 _).ats (.cons (z8 h0) (.cons (fun _ _ _ _ h=>h) (.cons (z8 h2) (.cons (z8 h3) .nil)))) hx
 . cases h⟩
def k170:Fk 170:=aF (aL (.p .sMemMemory) fun a0=>aL (.i .i64) fun a1=>aL (.i .i64) fun a2=>aE (zIl a0 a1 a2))
def k172:Fk 172:=aF (aS .sQueueForm fun a0=>aL (.p .sMemMemory) fun a1=>aL (.i .i64) fun a2=>aL (.i .i64) fun a3=>aE (zIn a0 a1 a2 a3))
def g173(args:List AV)(hp:List Blk):Option Rsp:=
 match args,hp with
 | [a0,.ref 0 0,a2],[.cells 112 [.own 1],.arr 46 (.i .u32) y0]=>(rdS .sQueueForm a0).bind fun b0=>(rdL (.i .i64) a2).bind fun b2=>some ⟨zwY,(zgH b0 b2 y0),zFo,default⟩
 | _,_=>none
def k173:Fk 173:=⟨g173,fun args hp y h x hx=>by
 unfold g173 at h
 split at h
 . simp only[Option.bind_eq_some_iff]at h
   obtain ⟨b0,h0,b2,h2,h⟩:=h
   cases h;exact(zIo b0 b2 _).ats (.cons (zct h0) (.cons (fun _ _ _ _ h=>h) (.cons (z8 h2) .nil))) hx
 . cases h⟩
def g174(args:List AV)(hp:List Blk):Option Rsp:=
 match args,hp with
 | [a0,.ref 0 0,a2,a3,a4],[.cells 112 [.own 1],.arr 46 (.i .u32) y0]=>(rdS .sQueueForm a0).bind fun b0=>(rdL (.i .i64) a2).bind fun b2=>(rdS .sQueueRow a3).bind fun b3=>(rdL (.sl (.i .u32)) a4).bind fun b4=>some ⟨zwZ,(zeU b0 b2 b3 b4 y0),zFp,default⟩
 | _,_=>none
def k174:Fk 174:=⟨g174,fun args hp y h x hx=>by
 unfold g174 at h
 split at h
 . simp only[Option.bind_eq_some_iff]at h
   obtain ⟨b0,h0,b2,h2,b3,h3,b4,h4,h⟩:=h
   cases h;exact(zIp b0 b2 b3 b4 _).ats (.cons (zct h0) (.cons (fun _ _ _ _ h=>h) (.cons (z8 h2) (.cons (zct h3) (.cons (z8 h4) .nil))))) hx
 . cases h⟩
def g214(args:List AV)(hp:List Blk):Option Rsp:=
 match args,hp with
 | [a0,.ref 0 0,a2],[.cells 112 [.own 1],.arr 46 (.i .u32) y0]=>(rdS .sQueueForm a0).bind fun b0=>(rdL (.i .i64) a2).bind fun b2=>some ⟨znO,(zgJ b0 b2 y0),zFC,default⟩
 | _,_=>none
def k214:Fk 214:=⟨g214,fun args hp y h x hx=>by
 unfold g214 at h
 split at h
 . simp only[Option.bind_eq_some_iff]at h
   obtain ⟨b0,h0,b2,h2,h⟩:=h
   cases h;exact(zIH b0 b2 _).ats (.cons (zct h0) (.cons (fun _ _ _ _ h=>h) (.cons (z8 h2) .nil))) hx
 . cases h⟩
def k226:Fk 226:=aF (aL (.p .sMemMemory) fun a0=>aL (.i .i64) fun a1=>aL (.i .i64) fun a2=>aL (.i .i64) fun a3=>aE (zIT a0 a1 a2 a3))
def GC2:GK:=zlj [⟨22,k22⟩,⟨47,k47⟩,⟨70,k70⟩,⟨71,k71⟩,⟨106,k106⟩,⟨121,k121⟩,⟨122,k122⟩,⟨124,k124⟩,⟨136,k136⟩,⟨161,k161⟩,⟨170,k170⟩,⟨172,k172⟩,⟨173,k173⟩,⟨174,k174⟩,⟨214,k214⟩,⟨226,k226⟩] GC1
abbrev R51:=zaQ × Int
def to51(r:R51):Ans:=⟨.tup [.agg [(zg r.1.barrier),.sl .sPartitionPlace r.1.partitions,.sl .sChannelPlace r.1.channels,(zg r.1.end_)],(zg r.2)],[]⟩
inductive L51 where | l0 (x0:Int) (x1:List zE) | l4 (v0:R71) (x0:Int) (x1:Int) (x2:Int) (x3:Int) (x4:List zj) (x5:List zE) | l81 (v0:R71) (x0:Int) (x1:Int) (x2:Int) (x3:Int) (x4:List zj) (x5:List zE)
def H51:zaa:=⟨fun n=>[40].any (Nat.beq n),zgf [(0,⟨fgt [1,2,4,29,30] 190 0,[]⟩),(4,⟨fgt [2,4,8,9,10,58,59] 190 0,[]⟩),(81,⟨fgt [2,4,8,9,10,58,59] 190 0,[]⟩)],[(.cell 0 1,.sl .sPartitionPlace),(.cell 0 2,.sl .sChannelPlace)],G0,(fun e=>match e with | 140=>[(4,3)] | 189=>[(4,209)] | _=>[])⟩
def st51(c:za):L51->Nat × St | .l0 x0 x1=>(0,⟨mkE [(1,.ref 0 0),(2,.ref 1 0),(4,.ref 2 0),(29,(zg c.channels.length)),(30,(zg x0))] 190 0,[.cells 26 (Ty.enc .sConfig c),.cells 104 [(zg 0),.v (.slice none 0 0),.v (.slice none 0 0),(zg 0)],.cells 104 [(zg 0),.own 3,.own 4,(zg 0)],.row 140 .sPartitionPlace [(4,3)] [] (List.replicate (c.partitions.length:Int).toNat (⟨0,0,0,0,[]⟩:zj)),.row 189 .sChannelPlace [(4,209)] [] x1],GL,0,[],(fun e=>match e with | 140=>[(4,3)] | 189=>[(4,209)] | _=>[])⟩) | .l4 v0 x0 x1 x2 x3 x4 x5=>(4,⟨mkE [(2,.ref 0 0),(4,.ref 1 0),(8,(zg x0)),(9,.own 4),(10,(zg x1)),(58,(zg v0.length)),(59,(zg x2))] 190 0,[.cells 104 [(zg 0),.v (.slice none 0 0),.v (.slice none 0 0),(zg 0)],.cells 104 [(zg x3),.own 2,.own 3,(zg 0)],.row 140 .sPartitionPlace [(4,3)] [] x4,.row 189 .sChannelPlace [(4,209)] [] x5,.arr 182 .sBulkheadref15Piece v0],GL,0,[],(fun e=>match e with | 140=>[(4,3)] | 189=>[(4,209)] | _=>[])⟩) | .l81 v0 x0 x1 x2 x3 x4 x5=>(81,⟨mkE [(2,.ref 0 0),(4,.ref 1 0),(8,(zg x0)),(9,.own 4),(10,(zg x1)),(58,(zg v0.length)),(59,(zg x2))] 190 0,[.cells 104 [(zg 0),.v (.slice none 0 0),.v (.slice none 0 0),(zg 0)],.cells 104 [(zg x3),.own 2,.own 3,(zg 0)],.row 140 .sPartitionPlace [(4,3)] [] x4,.row 189 .sChannelPlace [(4,209)] [] x5,.arr 182 .sBulkheadref15Piece v0],GL,0,[],(fun e=>match e with | 140=>[(4,3)] | 189=>[(4,209)] | _=>[])⟩)
def zlS(c:za):L51->Tree L51 R51 | .l0 x0 x1 =>let y1:=zG x1 x0.toNat;.c (decide (x0<c.channels.length)) (.b (zBJ c x0) fun r2=>.g (zN x0 x1.length) <| .g (zN x0 (List.set x1 x0.toNat (⟨y1.lock,y1.stage,r2.1,y1.port,y1.dests⟩:zE)).length) <| .j (.l0 (i64.wrap (x0+1)) (List.set (List.set x1 x0.toNat (⟨y1.lock,y1.stage,r2.1,y1.port,y1.dests⟩:zE)) x0.toNat (⟨(zG (List.set x1 x0.toNat (⟨y1.lock,y1.stage,r2.1,y1.port,y1.dests⟩:zE)) x0.toNat).lock,(zG (List.set x1 x0.toNat (⟨y1.lock,y1.stage,r2.1,y1.port,y1.dests⟩:zE)) x0.toNat).stage,(zG (List.set x1 x0.toNat (⟨y1.lock,y1.stage,r2.1,y1.port,y1.dests⟩:zE)) x0.toNat).partition,r2.2,(zG (List.set x1 x0.toNat (⟨y1.lock,y1.stage,r2.1,y1.port,y1.dests⟩:zE)) x0.toNat).dests⟩:zE)))) (.b (zjo c) fun r3=>.j (.l4 r3 0 (i64.wrap (16*c.kernel)) 0 0 (List.replicate (c.partitions.length:Int).toNat (⟨0,0,0,0,[]⟩:zj)) x1)) | .l4 v0 x0 x1 x2 x3 x4 x5 =>let y1:=zby v0 x2.toNat;let y3:=y1.owner.index;let y4:=i64.wrap (y1.at_+y1.size);let y6:=(y1.owner.kind:Int);let y7:=zG x5 x0.toNat;let y8:=zN y3 x4.length;let y9:=y3.toNat;let y2:=zm x4 y9;let y5:=zG x5 y9;let y10:=(⟨y1.owner.index,y1.owner.port,y1.at_⟩:zaW);let y11:=bop .quo .i64 (y1.at_) 16;let y12:=(y7.dests:List zaW);let y13:=(y2.tables:List Int);.c (decide (x2<v0.length)) (.g (zN x2 v0.length) <| .c (y6==2) (.j (.l81 v0 x0 y4 x2 (y1.at_) x4 x5)) (.c (y6==3) (.g y8 <| .j (.l81 v0 x0 y4 x2 x3 (List.set x4 y9 (⟨y1.at_,y2.save,y2.state,y2.root,y2.tables⟩:zj)) x5)) (.c (y6==4) (.g y8 <| .j (.l81 v0 x0 y4 x2 x3 (List.set x4 y9 (⟨y2.lock,y1.at_,y2.state,y2.root,y2.tables⟩:zj)) x5)) (.c (y6==5) (.g y8 <| .j (.l81 v0 x0 y4 x2 x3 (List.set x4 y9 (⟨y2.lock,y2.save,y1.at_,y2.root,y2.tables⟩:zj)) x5)) (.c (y6==6) (.g (zN y3 x5.length) <| .j (.l81 v0 y3 y4 x2 x3 x4 (List.set x5 y9 (⟨y1.at_,y5.stage,y5.partition,y5.port,y5.dests⟩:zE)))) (.c (y6==7) (.g (zN y3 x5.length) <| .j (.l81 v0 x0 y4 x2 x3 x4 (List.set x5 y9 (⟨y5.lock,y1.at_,y5.partition,y5.port,y5.dests⟩:zE)))) (.c (y6==8) (.g (zN x0 x5.length) <| .g (leB ((y12.length+([y10]:List zaW).length)*24) 140737488355328) <| .g (zN x0 x5.length) <| .g (Nat.beq x0.toNat x0.toNat) <| .j (.l81 v0 x0 y4 x2 x3 x4 (List.set x5 x0.toNat (⟨y7.lock,y7.stage,y7.partition,y7.port,(y12++[y10])⟩:zE)))) (.c (y6==9) (.g y8 <| .c ((y2.root:Int)==0) (.g y8 <| .j (.l81 v0 x0 y4 x2 x3 (List.set x4 y9 (⟨y2.lock,y2.save,y2.state,y11,y2.tables⟩:zj)) x5)) (.g y8 <| .g (leB ((y13.length+([y11]:List Int).length)*8) 140737488355328) <| .g y8 <| .g (Nat.beq y9 y9) <| .j (.l81 v0 x0 y4 x2 x3 (List.set x4 y9 (⟨y2.lock,y2.save,y2.state,y2.root,(y13++[y11])⟩:zj)) x5))) (.j (.l81 v0 x0 y4 x2 x3 x4 x5)))))))))) (.r ((⟨x3,x4,x5,(bop .quo .i64 (i64.wrap ((i64.wrap (x1+16))-1)) 16)⟩:zaQ),0)) | .l81 v0 x0 x1 x2 x3 x4 x5=>.j (.l4 v0 x0 x1 (i64.wrap (x2+1)) x3 x4 x5)
def zEv(c:za):Tree L51 R51:=.b (znw c) fun r1=>.c (!r1) (.r ((⟨0,[],[],0⟩:zaQ),150)) (.g (decide ((c.partitions.length:Int)=c.partitions.length)&&decide (0<=c.partitions.length)&&leB ((c.partitions.length:Int).toNat*56) 140737488355328) <| .g (decide ((c.channels.length:Int)=c.channels.length)&&decide (0<=c.channels.length)&&leB ((c.channels.length:Int).toNat*56) 140737488355328) <| .j (.l0 0 (List.replicate (c.channels.length:Int).toNat (⟨0,0,0,0,[]⟩:zE))))
def zjb(c:za):L51->Option R51:=zan (zlS c)
theorem zgD(c:za)(l:L51):zjb c l=(zlS c l).run (zjb c):=zF _ l
def zgN(c:za):Option R51:=(zEv c).run (zjb c)
theorem zNi(c:za):Oks 51 [.agg (Ty.enc .sConfig c)] [] (zgN c) to51:=zM GC2 (H:=H51) zJ Tryz.func51 rfl (by kernel_rfl) (st51 c) (fun J l=>by cases l <;> kernel_rfl) (fun J=>by kernel_rfl)
abbrev R163:=zlh × Int
def zPE(r:R163):Ans:=⟨.tup [.agg [(zg r.1.page),(zg r.1.frame),(zg r.1.rights)],(zg r.2)],[]⟩
def zic(m:(Option ze))(root:Int)(page:Int):Option R163:=Tree.run0 <|
 .c m.isNone
 (.r ((⟨0,0,0⟩:zlh),3))
 (.b (zki m root) fun r1=>
 .c (!r1)
 (.r ((⟨0,0,0⟩:zlh),91))
 (.c (decide ((page:Int)<0))
 (.r ((⟨0,0,0⟩:zlh),92))
 (.c (decide ((page:Int)>=256))
 (.r ((⟨0,0,0⟩:zlh),92))
 (.b (zkj m root (bop .quo .i64 page 16)) fun r2=>
 .c (!((r2.2.2:Int)==0))
 (.r ((⟨0,0,0⟩:zlh),r2.2.2))
 (.b (zkj m r2.1 (bop .rem .i64 page 16)) fun r3=>
 .c (!((r3.2.2:Int)==0))
 (.r ((⟨0,0,0⟩:zlh),r3.2.2))
 (.r ((⟨page,r3.1,r3.2.1⟩:zlh),0)))))))
theorem zIe(m:(Option ze))(root:Int)(page:Int):Oks 163 [.op .sMemMemory m,(zg root),(zg page)] [] (zic m root page) zPE:=zL GC2 (H:=H0) zJ Tryz.func163 rfl (by kernel_rfl) (fun J=>by kernel_rfl)
abbrev zGd:=zU × Int × ze
def zFB(r:zGd):Ans:=⟨.tup [.agg [(zr r.1.first),(zr r.1.lost),.own 2],(zg r.2.1)],[.cells 112 [.own 1],.arr 46 (.i .u32) r.2.2.words,.arr 53 (.sl (.i .u32)) r.1.messages]⟩
def H213:zaa:=⟨fun _=>false,fun _=>⟨[],[]⟩,[(.cell 0 2,.own 53 (.sl (.i .u32)))],G0,zO⟩
def zgI(f:zy)(pl:Int)(ws:List Int):Option zGd:=Tree.run0 <|
 .b (zex f (some (⟨ws⟩:ze)) pl 1) fun r1=>
 .c (!r1)
 (.r ((⟨0,0,[]⟩:zU),51,(⟨ws⟩:ze)))
 (.b (zgJ f pl ws) fun r2=>
 .c (!r2.2.1)
 (.r ((⟨0,0,[]⟩:zU),201,r2.2.2))
 (.r (r2.1,0,r2.2.2)))
theorem zIG(f:zy)(pl:Int)(ws:List Int):Oks 213 [.agg [(zg f.words),(zg f.depth)],.ref 0 0,(zg pl)] [.cells 112 [.own 1],.arr 46 (.i .u32) ws] (zgI f pl ws) zFB:=zL GC2 (H:=H213) zJ Tryz.func213 rfl (by kernel_rfl) (fun J=>by kernel_rfl)
abbrev R67:=zaM × Int × zah
def to67(r:R67):Ans:=⟨.tup [.agg [(zr r.1.one),(zr r.1.two),(zr r.1.three)],(zg r.2.1)],[.cells 116 [.op .sCallsCalls r.2.2.calls,.ref 1 0,(zg r.2.2.p),(zg r.2.2.epoch),(zr r.2.2.x.regs.e0),(zr r.2.2.x.regs.e1),(zr r.2.2.x.regs.e2),(zr r.2.2.x.regs.e3),(zr r.2.2.x.regs.e4),(zr r.2.2.x.regs.e5),(zr r.2.2.x.regs.e6),(zr r.2.2.x.regs.e7),(zr r.2.2.x.regs.e8),(zr r.2.2.x.regs.e9),(zr r.2.2.x.regs.e10),(zr r.2.2.x.regs.e11),(zr r.2.2.x.regs.e12),(zr r.2.2.x.regs.e13),(zr r.2.2.x.regs.e14),(zr r.2.2.x.regs.e15),(zr r.2.2.x.pC)],.cells 112 [.own 2],.arr 46 (.i .u32) ((r.2.2.m.getD default).words)]⟩
def zsU(s:(Option zq))(p:Int)(epoch:Int)(x:zB)(ws:List Int):Option R67:=Tree.run0 <|
 .g s.isSome <|
 .b (zm6 ((s.getD default).devices) p ws) fun r1=>
 .r ((zi2 r1.1),r1.2.1,(⟨s,(some r1.2.2),p,epoch,x⟩:zah))
theorem zNy(s:(Option zq))(p:Int)(epoch:Int)(x:zB)(ws:List Int):Oks 67 [.ref 0 0] [.cells 116 [.op .sCallsCalls s,.ref 1 0,(zg p),(zg epoch),(zr x.regs.e0),(zr x.regs.e1),(zr x.regs.e2),(zr x.regs.e3),(zr x.regs.e4),(zr x.regs.e5),(zr x.regs.e6),(zr x.regs.e7),(zr x.regs.e8),(zr x.regs.e9),(zr x.regs.e10),(zr x.regs.e11),(zr x.regs.e12),(zr x.regs.e13),(zr x.regs.e14),(zr x.regs.e15),(zr x.pC)],.cells 112 [.own 2],.arr 46 (.i .u32) ws] (zsU s p epoch x ws) to67:=zL GC2 (H:=H0) zJ Tryz.func67 rfl (by kernel_rfl) (fun J=>by kernel_rfl)
abbrev R120:=zx
def zO5(r:R120):Ans:=⟨.agg [(zg r.e),(zg r.where_.first),(zg r.where_.second)],[]⟩
def zqD(a:za)(a_1:Int):Option R120:=Tree.run0 <|
 .b (zqE a a_1) fun r1=>
 .r r1
theorem zAW(a:za)(a_1:Int):Oks 120 [.op .sConfig (some a),.op (.i .i64) (some a_1)] [] (zqD a a_1) zO5:=zL GC2 (H:=H0) zJ Tryz.func120 rfl (by kernel_rfl) (fun J=>by kernel_rfl)
abbrev R38:=zbx × Int
def to38(r:R38):Ans:=⟨.tup [.agg [(zg r.1.kind),(zg r.1.index),(zg r.1.port)],(zg r.2)],[]⟩
inductive L38 where | l0 (v0:R71) (x0:Int) | l4 (x0:Int) | l8 (x0:Int) (x1:Int) (x2:Int) (x3:Int)
def H38:zaa:=htt [] [(0,⟨fgt [1,2,4,6,33,34] 120 0,[]⟩),(4,⟨fgt [1,2,4,67,68] 120 0,[]⟩),(8,⟨fgt [1,2,4,8,67,68,77,78] 120 0,[]⟩)] []
def st38(c:za)(at_1:Int):L38->Nat × St | .l0 v0 x0=>(0,⟨mkE [(1,(zg at_1)),(2,.ref 0 0),(4,.ref 1 0),(6,.own 2),(33,(zg v0.length)),(34,(zg x0))] 120 0,[.cells 26 (Ty.enc .sConfig c),.cells 124 [(zg 0),(zg 0),(zg 0)],.arr 182 .sBulkheadref15Piece v0],GL,0,[],zO⟩) | .l4 x0=>(4,⟨mkE [(1,(zg at_1)),(2,.ref 0 0),(4,.ref 1 0),(67,(zg c.partitions.length)),(68,(zg x0))] 120 0,[.cells 26 (Ty.enc .sConfig c),.cells 124 [(zg 0),(zg 0),(zg 0)]],GL,0,[],zO⟩) | .l8 x0 x1 x2 x3=>(8,⟨mkE [(1,(zg at_1)),(2,.ref 0 0),(4,.ref 1 0),(8,(zg x0)),(67,(zg c.partitions.length)),(68,(zg x1)),(77,(zg x2)),(78,(zg x3))] 120 0,[.cells 26 (Ty.enc .sConfig c),.cells 124 [(zg 0),(zg 0),(zg 0)]],GL,0,[],zO⟩)
def zkC(c:za)(at_1:Int):L38->Tree L38 R38 | .l0 v0 x0 =>let y1:=zby v0 x0.toNat;let y2:=zN x0 v0.length;let y3:=i64.wrap (x0+1);.c (decide (x0<v0.length)) (.g y2 <| .c (decide ((y1.at_:Int)<=at_1)) (.g y2 <| .g y2 <| .c (decide ((at_1:Int)<(i64.wrap (y1.at_+y1.size)))) (.g y2 <| .r (y1.owner,0)) (.j (.l0 v0 y3))) (.j (.l0 v0 y3))) (.j (.l4 0)) | .l4 x0=>.c (decide (x0<c.partitions.length)) (.g (zN x0 c.partitions.length) <| .j (.l8 x0 x0 (((zb c.partitions x0.toNat).regions).length) 0)) (.r ((⟨0,0,0⟩:zbx),0)) | .l8 x0 x1 x2 x3 =>let y2:=i64.wrap (x3+1);let y3:=(zb c.partitions x0.toNat).regions;let y1:=zh y3 x3.toNat;let y4:=(y1.frame:Int);let y5:=bop .quo .i64 at_1 16;.c (decide (x3<x2)) (.g (zN x0 c.partitions.length) <| .g (zN x3 y3.length) <| .c (decide (y4>=0)) (.c (decide (y4<=1024)) (.c (decide (y4<=y5)) (.c (decide ((y5:Int)<(i64.wrap (y1.frame+y1.pages)))) (.r ((⟨1,x0,0⟩:zbx),0)) (.j (.l8 x0 x1 x2 y2))) (.j (.l8 x0 x1 x2 y2))) (.j (.l8 x0 x1 x2 y2))) (.j (.l8 x0 x1 x2 y2))) (.j (.l4 (i64.wrap (x1+1))))
def zEo(c:za)(at_1:Int):Tree L38 R38:=.b (znw c) fun r1=>.c (!r1) (.r ((⟨0,0,0⟩:zbx),150)) (.c (decide ((at_1:Int)<0)) (.r ((⟨0,0,0⟩:zbx),151)) (.c (decide (((bop .quo .i64 at_1 16):Int)>=c.frames)) (.r ((⟨0,0,0⟩:zbx),151)) (.c (decide (((bop .quo .i64 at_1 16):Int)>=1024)) (.r ((⟨0,0,0⟩:zbx),151)) (.b (zjo c) fun r2=>.j (.l0 r2 0)))))
def zi9(c:za)(at_1:Int):L38->Option R38:=zan (zkC c at_1)
theorem zfg(c:za)(at_1:Int)(l:L38):zi9 c at_1 l=(zkC c at_1 l).run (zi9 c at_1):=zF _ l
def zvN(c:za)(at_1:Int):Option R38:=(zEo c at_1).run (zi9 c at_1)
theorem zM8(c:za)(at_1:Int):Oks 38 [.agg (Ty.enc .sConfig c),(zg at_1)] [] (zvN c at_1) to38:=zM GC2 (H:=H38) zJ Tryz.func38 rfl (by kernel_rfl) (st38 c at_1) (fun J l=>by cases l <;> kernel_rfl) (fun J=>by kernel_rfl)
abbrev zGg:=Int × ze
def zFF(r:zGg):Ans:=⟨(zg r.1),[.cells 112 [.own 1],.arr 46 (.i .u32) r.2.words]⟩
def znk(stage:Int)(words:Int)(message:(List Int))(ws:List Int):Option zGg:=Tree.run0 <|
 .c (!(((zgx (some (⟨ws⟩:ze)) words):Int)==0))
 (.r ((zgx (some (⟨ws⟩:ze)) words),(⟨ws⟩:ze)))
 (.b (zfL (some (⟨ws⟩:ze)) stage (i64.wrap (2+words))) fun r1=>
 .c (!((r1:Int)==0))
 (.r (r1,(⟨ws⟩:ze)))
 (.c (decide ((message.length:Int)<1))
 (.r (190,(⟨ws⟩:ze)))
 (.c (decide ((message.length:Int)>words))
 (.r (190,(⟨ws⟩:ze)))
 (.b (zcY (some (⟨ws⟩:ze)) stage words 2) fun r2=>
 .c (!((r2.2:Int)==0))
 (.r (r2.2,(⟨ws⟩:ze)))
 (.g (decide (((i64.wrap (2+words)):Int)=(i64.wrap (2+words)))&&decide (0<=(i64.wrap (2+words)))&&leB ((i64.wrap (2+words)).toNat*4) 140737488355328) <|
 .g (zN 0 (List.replicate (i64.wrap (2+words)).toNat (0:Int)).length) <|
 .g (zN 1 (List.set (List.replicate (i64.wrap (2+words)).toNat (0:Int)) 0 1).length) <|
 .g (inS 2 ((List.set (List.set (List.replicate (i64.wrap (2+words)).toNat (0:Int)) 0 1) 1 (u32.wrap message.length)).length) (List.set (List.set (List.replicate (i64.wrap (2+words)).toNat (0:Int)) 0 1) 1 (u32.wrap message.length)).length) <|
 .b (zeV stage (zcA (List.set (List.set (List.replicate (i64.wrap (2+words)).toNat (0:Int)) 0 1) 1 (u32.wrap message.length)) 2 (List.take (((List.set (List.set (List.replicate (i64.wrap (2+words)).toNat (0:Int)) 0 1) 1 (u32.wrap message.length)).length:Int).toNat-2) (message:List Int))) ws) fun r3=>
 .r (r3.1,r3.2))))))
theorem zIP(stage:Int)(words:Int)(message:(List Int))(ws:List Int):Oks 222 [.ref 0 0,(zg stage),(zg words),.sl (.i .u32) message] [.cells 112 [.own 1],.arr 46 (.i .u32) ws] (znk stage words message ws) zFF:=zL GC2 (H:=H0) zJ Tryz.func222 rfl (by kernel_rfl) (fun J=>by kernel_rfl)
abbrev zF2:=zy × zU × Int × ze
def zFl(r:zF2):Ans:=⟨.tup [.agg [(zg r.1.words),(zg r.1.depth)],.agg [(zr r.2.1.first),(zr r.2.1.lost),.own 2],(zg r.2.2.1)],[.cells 112 [.own 1],.arr 46 (.i .u32) r.2.2.2.words,.arr 53 (.sl (.i .u32)) r.2.1.messages]⟩
def H164:zaa:=⟨fun _=>false,fun _=>⟨[],[]⟩,[(.cell 1 2,.own 53 (.sl (.i .u32)))],G0,zO⟩
def zeT(pl:Int)(words:Int)(depth:Int)(ws:List Int):Option zF2:=Tree.run0 <|
 .c (!(((zgw (some (⟨ws⟩:ze)) (⟨words,depth⟩:zy)):Int)==0))
 (.r ((⟨words,depth⟩:zy),(⟨0,0,[]⟩:zU),(zgw (some (⟨ws⟩:ze)) (⟨words,depth⟩:zy)),(⟨ws⟩:ze)))
 (.b (zex (⟨words,depth⟩:zy) (some (⟨ws⟩:ze)) pl 3) fun r1=>
 .c (!r1)
 (.r ((⟨words,depth⟩:zy),(⟨0,0,[]⟩:zU),51,(⟨ws⟩:ze)))
 (.b (zgH (⟨words,depth⟩:zy) pl ws) fun r2=>
 .c (!r2.2.1)
 (.r ((⟨words,depth⟩:zy),(⟨0,0,[]⟩:zU),201,r2.2.2))
 (.r ((⟨words,depth⟩:zy),r2.1,0,r2.2.2))))
theorem zIf(pl:Int)(words:Int)(depth:Int)(ws:List Int):Oks 164 [.ref 0 0,(zg pl),(zg words),(zg depth)] [.cells 112 [.own 1],.arr 46 (.i .u32) ws] (zeT pl words depth ws) zFl:=zL GC2 (H:=H164) zJ Tryz.func164 rfl (by kernel_rfl) (fun J=>by kernel_rfl)
abbrev R223:=Int × Int
def zPV(r:R223):Ans:=⟨.tup [(zg r.1),(zg r.2)],[]⟩
def zui(m:(Option ze))(stage:Int)(words:Int):Option R223:=Tree.run0 <|
 .c (!(((zgx m words):Int)==0))
 (.r (0,(zgx m words)))
 (.b (zcY m stage words 2) fun r1=>
 .r ((mn r1.1.length 1),r1.2))
theorem zIQ(m:(Option ze))(stage:Int)(words:Int):Oks 223 [.op .sMemMemory m,(zg stage),(zg words)] [] (zui m stage words) zPV:=zL GC2 (H:=H0) zJ Tryz.func223 rfl (by kernel_rfl) (fun J=>by kernel_rfl)
abbrev zwX:=ze
def zFm(r:zwX):Ans:=⟨.tup [],[.cells 112 [.own 1],.arr 46 (.i .u32) r.words]⟩
inductive zwG where | l7 (x0:Int)
def H165:zaa:=htt [3] [(7,⟨fgt [1,2,4,7] 27 0,[]⟩)] []
def zOB(f:zy)(pl:Int)(row:zU)(ws:List Int):zwG->Nat × St | .l7 x0=>(7,⟨mkE [(1,.ref 0 0),(2,(zg pl)),(4,.ref 2 0),(7,.ref 3 0)] 27 0,[.cells 112 [.own 1],.arr 46 (.i .u32) ws,.cells 299 [(zg f.words),(zg f.depth)],.cells 301 [(zr x0),(zr row.lost),.sl (.sl (.i .u32)) row.messages]],GL,2,[],zO⟩)
def ztq(f:zy)(pl:Int)(row:zU)(ws:List Int):zwG->Tree zwG zwX | .l7 x0=>.b (zeU f pl (⟨x0,row.lost,row.messages⟩:zU) [x0,(u32.wrap row.messages.length),row.lost] ws) fun r1=>.r r1
def zzO(f:zy)(pl:Int)(row:zU)(ws:List Int):Tree zwG zwX:=.c ((row.messages.length:Int)==0) (.j (.l7 0)) (.j (.l7 row.first))
def zkc(f:zy)(pl:Int)(row:zU)(ws:List Int):zwG->Option zwX:=zan (ztq f pl row ws)
theorem zxZ(f:zy)(pl:Int)(row:zU)(ws:List Int)(l:zwG):zkc f pl row ws l=(ztq f pl row ws l).run (zkc f pl row ws):=zF _ l
def zgG(f:zy)(pl:Int)(row:zU)(ws:List Int):Option zwX:=(zzO f pl row ws).run (zkc f pl row ws)
theorem zIg(f:zy)(pl:Int)(row:zU)(ws:List Int):Oks 165 [.agg [(zg f.words),(zg f.depth)],.ref 0 0,(zg pl),.agg (Ty.enc .sQueueRow row)] [.cells 112 [.own 1],.arr 46 (.i .u32) ws] (zgG f pl row ws) zFm:=zM GC2 (H:=H165) zJ Tryz.func165 rfl (by kernel_rfl) (zOB f pl row ws) (fun J l=>by cases l <;> kernel_rfl) (fun J=>by kernel_rfl)
abbrev R85:=Int × zaY
def to85(r:R85):Ans:=⟨.tup [(zg r.1),.agg [(zg r.2.first),(zg r.2.second)]],[]⟩
inductive L85 where | l2 (x0:Int) | l6 (x0:Int)
def H85:zaa:=htt [] [(2,⟨fgt [1,2,5,6,7] 107 0,[]⟩),(6,⟨fgt [1,2,5,6,9] 107 0,[]⟩)] []
def st85(c:za)(p:Int):L85->Nat × St | .l2 x0=>(2,⟨mkE [(1,(zg p)),(2,.ref 0 0),(5,.ref 1 0),(6,.ref 2 0),(7,(zg x0))] 107 0,[.cells 26 (Ty.enc .sConfig c),.cells 144 [(zg 0),(zg 0)],.cells 72 (Ty.enc .sPartition (zb c.partitions p.toNat))],GL,0,[],zO⟩) | .l6 x0=>(6,⟨mkE [(1,(zg p)),(2,.ref 0 0),(5,.ref 1 0),(6,.ref 2 0),(9,(zg x0))] 107 0,[.cells 26 (Ty.enc .sConfig c),.cells 144 [(zg 0),(zg 0)],.cells 72 (Ty.enc .sPartition (zb c.partitions p.toNat))],GL,0,[],zO⟩)
def zn9(c:za)(p:Int):L85->Tree L85 R85 | .l2 x0 =>let y1:=zb c.partitions p.toNat;.c (decide (x0<(y1.regions).length)) (.b (zqL c p x0) fun r2=>.c (!((r2:Int)==0)) (.r (r2,(⟨p,x0⟩:zaY))) (.j (.l2 (i64.wrap (x0+1))))) (.b (zm9 y1) fun r3=>.c (!r3) (.r (412,(zlp p))) (.c (decide (((y1.ports).length:Int)>8)) (.r (413,(zlp p))) (.j (.l6 0)))) | .l6 x0 =>let y1:=(zb c.partitions p.toNat).ports;.c (decide (x0<y1.length)) (.g (zN x0 y1.length) <| .c (!(zaP ((zbc y1 x0.toNat).channel) 0 (i64.wrap (c.channels.length-1)))) (.r (414,(⟨p,x0⟩:zaY))) (.j (.l6 (i64.wrap (x0+1))))) (.r (0,(⟨0,0⟩:zaY)))
def zEJ(c:za)(p:Int):Tree L85 R85:=.g (zN p c.partitions.length) <| .b (zqK c p) fun r1=>.c (!r1) (.r (405,(zlp p))) (.c (!(zaP ((zb c.partitions p.toNat).action) 0 2)) (.r (406,(zlp p))) (.c (!(zaP ((zb c.partitions p.toNat).restarts) 0 15)) (.r (406,(zlp p))) (.c (!(zaP ((zb c.partitions p.toNat).inputs) 0 16)) (.r (407,(zlp p))) (.c (!(zaP ((zb c.partitions p.toNat).outputs) 0 16)) (.r (407,(zlp p))) (.c (!(zaP (((zb c.partitions p.toNat).regions).length) 1 8)) (.r (408,(zlp p))) (.j (.l2 0)))))))
def zpc(c:za)(p:Int):L85->Option R85:=zan (zn9 c p)
theorem zjf(c:za)(p:Int)(l:L85):zpc c p l=(zn9 c p l).run (zpc c p):=zF _ l
def zvV(c:za)(p:Int):Option R85:=(zEJ c p).run (zpc c p)
theorem zNQ(c:za)(p:Int):Oks 85 [.agg (Ty.enc .sConfig c),(zg p)] [] (zvV c p) to85:=zM GC2 (H:=H85) zJ Tryz.func85 rfl (by kernel_rfl) (st85 c p) (fun J l=>by cases l <;> kernel_rfl) (fun J=>by kernel_rfl)
abbrev zyN:=Int
def zPZ(r:zyN):Ans:=⟨(zg r),[]⟩
inductive zwQ where | l0 (x0:Int) | l4 (x0:Int)
def H228:zaa:=htt [] [(0,⟨fgt [0,1,2,3,40,41,42] 77 0,[]⟩),(4,⟨fgt [0,2,60,61,62] 77 0,[]⟩)] []
def zOL(m:(Option ze))(stage:Int)(words:Int)(ports:(List Int)):zwQ->Nat × St | .l0 x0=>(0,⟨mkE [(0,.op .sMemMemory m),(1,(zg stage)),(2,(zg words)),(3,.sl (.i .i64) ports),(40,.sl (.i .i64) ports),(41,(zg ports.length)),(42,(zg x0))] 77 0,[],GL,0,[],zO⟩) | .l4 x0=>(4,⟨mkE [(0,.op .sMemMemory m),(2,(zg words)),(60,.sl (.i .i64) ports),(61,(zg ports.length)),(62,(zg x0))] 77 0,[],GL,0,[],zO⟩)
def zjH(m:(Option ze))(stage:Int)(words:Int)(ports:(List Int)):zwQ->Tree zwQ zyN | .l0 x0=>.c (decide (x0<ports.length)) (.g (zN x0 ports.length) <| .b (zfL m (zw ports x0.toNat) (i64.wrap (3+words))) fun r2=>.c (!((r2:Int)==0)) (.r r2) (.j (.l0 (i64.wrap (x0+1))))) (.b (znn stage words ports) fun r3=>.c (!r3) (.r 191) (.j (.l4 0))) | .l4 x0=>.c (decide (x0<ports.length)) (.g (zN x0 ports.length) <| .b (zcY m (zw ports x0.toNat) words 3) fun r4=>.c (!((r4.2:Int)==0)) (.r r4.2) (.j (.l4 (i64.wrap (x0+1))))) (.r 0)
def zzY(m:(Option ze))(stage:Int)(words:Int)(ports:(List Int)):Tree zwQ zyN:=.c (!(((zgx m words):Int)==0)) (.r (zgx m words)) (.c (decide ((ports.length:Int)<1)) (.r 1) (.c (decide ((ports.length:Int)>4)) (.r 1) (.b (zfL m stage (i64.wrap (2+words))) fun r1=>.c (!((r1:Int)==0)) (.r r1) (.j (.l0 0)))))
def zgB(m:(Option ze))(stage:Int)(words:Int)(ports:(List Int)):zwQ->Option zyN:=zan (zjH m stage words ports)
theorem zhh(m:(Option ze))(stage:Int)(words:Int)(ports:(List Int))(l:zwQ):zgB m stage words ports l=(zjH m stage words ports l).run (zgB m stage words ports):=zF _ l
def znl(m:(Option ze))(stage:Int)(words:Int)(ports:(List Int)):Option zyN:=(zzY m stage words ports).run (zgB m stage words ports)
theorem zIV(m:(Option ze))(stage:Int)(words:Int)(ports:(List Int)):Oks 228 [.op .sMemMemory m,(zg stage),(zg words),.sl (.i .i64) ports] [] (znl m stage words ports) zPZ:=zM GC2 (H:=H228) zJ Tryz.func228 rfl (by kernel_rfl) (zOL m stage words ports) (fun J l=>by cases l <;> kernel_rfl) (fun J=>by kernel_rfl)
abbrev R221:=(List Int) × Bool × Bool × Int
def zPU(r:R221):Ans:=⟨.tup [.own 0,(avB r.2.1),(avB r.2.2.1),(zg r.2.2.2)],[.arr 46 (.i .u32) r.1]⟩
def H221:zaa:=⟨fun _=>false,fun _=>⟨[],[]⟩,[(.slot 0,.own 46 (.i .u32))],G0,zO⟩
def zuh(m:(Option ze))(port:Int)(words:Int):Option R221:=Tree.run0 <|
 .c (!(((zgx m words):Int)==0))
 (.r ([],false,false,(zgx m words)))
 (.b (zcY m port words 3) fun r1=>
 .c (!((r1.2:Int)==0))
 (.r ([],false,false,r1.2))
 (.c ((r1.1.length:Int)==0)
 (.r ([],false,false,r1.2))
 (.b (zey m (i64.wrap (port+1))) fun r2=>
 .r (r1.1,((r2.1:Int)==1),true,0))))
theorem zIO(m:(Option ze))(port:Int)(words:Int):Oks 221 [.op .sMemMemory m,(zg port),(zg words)] [] (zuh m port words) zPU:=zL GC2 (H:=H221) zJ Tryz.func221 rfl (by kernel_rfl) (fun J=>by kernel_rfl)
abbrev zFZ:=Int × ze
def zFi(r:zFZ):Ans:=⟨(zg r.1),[.cells 112 [.own 1],.arr 46 (.i .u32) r.2.words]⟩
def zkh(w:(Option zaf))(p:Int)(state:Int)(ws:List Int):Option zFZ:=Tree.run0 <|
 .b (znf w p false ws) fun r1=>
 .c (!((r1.2.2.1:Int)==0))
 (.r (r1.2.2.1,r1.2.2.2))
 (.b (zdN (i64.wrap (r1.1.place.state+0)) state r1.2.2.2.words) fun r2=>
 .r (r2.1,r2.2))
theorem zHU(w:(Option zaf))(p:Int)(state:Int)(ws:List Int):Oks 143 [.op .sHealthWards w,.ref 0 0,(zg p),(zr state)] [.cells 112 [.own 1],.arr 46 (.i .u32) ws] (zkh w p state ws) zFi:=zL GC2 (H:=H0) zJ Tryz.func143 rfl (by kernel_rfl) (fun J=>by kernel_rfl)
abbrev R158:=Int × Int
def zPA(r:R158):Ans:=⟨.tup [(zg r.1),(zg r.2)],[]⟩
def zne(c:za):Option R158:=Tree.run0 <|
 .b (zcZ c) fun r2=>
 .c (!((r2.2:Int)==0))
 (.r (0,r2.2))
 (.r ((i64.wrap (r2.1.end_-c.kernel)),0))
theorem zH9(c:za):Oks 158 [.agg (Ty.enc .sConfig c)] [] (zne c) zPA:=zL GC2 (H:=H0) zJ Tryz.func158 rfl (by kernel_rfl) (fun J=>by kernel_rfl)
def k38:Fk 38:=aF (aS .sConfig fun a0=>aL (.i .i64) fun a1=>aE (zM8 a0 a1))
def k51:Fk 51:=aF (aS .sConfig fun a0=>aE (zNi a0))
def g67(args:List AV)(hp:List Blk):Option Rsp:=
 match args,hp with
 | [.ref 0 0],[.cells 116 [.op .sCallsCalls y0,.ref 1 0,.v (.int .i64 y1),.v (.int .i64 y2),.v (.int .u32 y3),.v (.int .u32 y4),.v (.int .u32 y5),.v (.int .u32 y6),.v (.int .u32 y7),.v (.int .u32 y8),.v (.int .u32 y9),.v (.int .u32 y10),.v (.int .u32 y11),.v (.int .u32 y12),.v (.int .u32 y13),.v (.int .u32 y14),.v (.int .u32 y15),.v (.int .u32 y16),.v (.int .u32 y17),.v (.int .u32 y18),.v (.int .u32 y19)],.cells 112 [.own 2],.arr 46 (.i .u32) y20]=>some ⟨R67,(zsU y0 y1 y2 (⟨(⟨y3,y4,y5,y6,y7,y8,y9,y10,y11,y12,y13,y14,y15,y16,y17,y18⟩:zZ),y19⟩:zB) y20),to67,default⟩
 | _,_=>none
def k67:Fk 67:=⟨g67,fun args hp y h x hx=>by
 unfold g67 at h
 split at h
 . cases h;exact(zNy _ _ _ _ _).ats (.cons (fun _ _ _ _ h=>h) .nil) hx
 . cases h⟩
def k85:Fk 85:=aF (aS .sConfig fun a0=>aL (.i .i64) fun a1=>aE (zNQ a0 a1))
def k120:Fk 120:=aF (aP .sConfig fun a0=>aP (.i .i64) fun a1=>aE (zAW a0 a1))
def g143(args:List AV)(hp:List Blk):Option Rsp:=
 match args,hp with
 | [a0,.ref 0 0,a2,a3],[.cells 112 [.own 1],.arr 46 (.i .u32) y0]=>(rdL (.p .sHealthWards) a0).bind fun b0=>(rdL (.i .i64) a2).bind fun b2=>(rdL (.i .u32) a3).bind fun b3=>some ⟨zFZ,(zkh b0 b2 b3 y0),zFi,default⟩
 | _,_=>none
def k143:Fk 143:=⟨g143,fun args hp y h x hx=>by
 unfold g143 at h
 split at h
 . simp only[Option.bind_eq_some_iff]at h
   obtain ⟨b0,h0,b2,h2,b3,h3,h⟩:=h
   cases h;exact(zHU b0 b2 b3 _).ats (.cons (z8 h0) (.cons (fun _ _ _ _ h=>h) (.cons (z8 h2) (.cons (z8 h3) .nil)))) hx
 . cases h⟩
def k158:Fk 158:=aF (aS .sConfig fun a0=>aE (zH9 a0))
def k163:Fk 163:=aF (aL (.p .sMemMemory) fun a0=>aL (.i .i64) fun a1=>aL (.i .i64) fun a2=>aE (zIe a0 a1 a2))
def g164(args:List AV)(hp:List Blk):Option Rsp:=
 match args,hp with
 | [.ref 0 0,a1,a2,a3],[.cells 112 [.own 1],.arr 46 (.i .u32) y0]=>(rdL (.i .i64) a1).bind fun b1=>(rdL (.i .i64) a2).bind fun b2=>(rdL (.i .i64) a3).bind fun b3=>some ⟨zF2,(zeT b1 b2 b3 y0),zFl,default⟩
 | _,_=>none
def k164:Fk 164:=⟨g164,fun args hp y h x hx=>by
 unfold g164 at h
 split at h
 . simp only[Option.bind_eq_some_iff]at h
   obtain ⟨b1,h1,b2,h2,b3,h3,h⟩:=h
   cases h;exact(zIf b1 b2 b3 _).ats (.cons (fun _ _ _ _ h=>h) (.cons (z8 h1) (.cons (z8 h2) (.cons (z8 h3) .nil)))) hx
 . cases h⟩
def g165(args:List AV)(hp:List Blk):Option Rsp:=
 match args,hp with
 | [a0,.ref 0 0,a2,a3],[.cells 112 [.own 1],.arr 46 (.i .u32) y0]=>(rdS .sQueueForm a0).bind fun b0=>(rdL (.i .i64) a2).bind fun b2=>(rdS .sQueueRow a3).bind fun b3=>some ⟨zwX,(zgG b0 b2 b3 y0),zFm,default⟩
 | _,_=>none
def k165:Fk 165:=⟨g165,fun args hp y h x hx=>by
 unfold g165 at h
 split at h
 . simp only[Option.bind_eq_some_iff]at h
   obtain ⟨b0,h0,b2,h2,b3,h3,h⟩:=h
   cases h;exact(zIg b0 b2 b3 _).ats (.cons (zct h0) (.cons (fun _ _ _ _ h=>h) (.cons (z8 h2) (.cons (zct h3) .nil)))) hx
 . cases h⟩
def g213(args:List AV)(hp:List Blk):Option Rsp:=
 match args,hp with
 | [a0,.ref 0 0,a2],[.cells 112 [.own 1],.arr 46 (.i .u32) y0]=>(rdS .sQueueForm a0).bind fun b0=>(rdL (.i .i64) a2).bind fun b2=>some ⟨zGd,(zgI b0 b2 y0),zFB,default⟩
 | _,_=>none
def k213:Fk 213:=⟨g213,fun args hp y h x hx=>by
 unfold g213 at h
 split at h
 . simp only[Option.bind_eq_some_iff]at h
   obtain ⟨b0,h0,b2,h2,h⟩:=h
   cases h;exact(zIG b0 b2 _).ats (.cons (zct h0) (.cons (fun _ _ _ _ h=>h) (.cons (z8 h2) .nil))) hx
 . cases h⟩
def k221:Fk 221:=aF (aL (.p .sMemMemory) fun a0=>aL (.i .i64) fun a1=>aL (.i .i64) fun a2=>aE (zIO a0 a1 a2))
def g222(args:List AV)(hp:List Blk):Option Rsp:=
 match args,hp with
 | [.ref 0 0,a1,a2,a3],[.cells 112 [.own 1],.arr 46 (.i .u32) y0]=>(rdL (.i .i64) a1).bind fun b1=>(rdL (.i .i64) a2).bind fun b2=>(rdL (.sl (.i .u32)) a3).bind fun b3=>some ⟨zGg,(znk b1 b2 b3 y0),zFF,default⟩
 | _,_=>none
def k222:Fk 222:=⟨g222,fun args hp y h x hx=>by
 unfold g222 at h
 split at h
 . simp only[Option.bind_eq_some_iff]at h
   obtain ⟨b1,h1,b2,h2,b3,h3,h⟩:=h
   cases h;exact(zIP b1 b2 b3 _).ats (.cons (fun _ _ _ _ h=>h) (.cons (z8 h1) (.cons (z8 h2) (.cons (z8 h3) .nil)))) hx
 . cases h⟩
def k223:Fk 223:=aF (aL (.p .sMemMemory) fun a0=>aL (.i .i64) fun a1=>aL (.i .i64) fun a2=>aE (zIQ a0 a1 a2))
def k228:Fk 228:=aF (aL (.p .sMemMemory) fun a0=>aL (.i .i64) fun a1=>aL (.i .i64) fun a2=>aL (.sl (.i .i64)) fun a3=>aE (zIV a0 a1 a2 a3))
def GC3:GK:=zlj [⟨38,k38⟩,⟨51,k51⟩,⟨67,k67⟩,⟨85,k85⟩,⟨120,k120⟩,⟨143,k143⟩,⟨158,k158⟩,⟨163,k163⟩,⟨164,k164⟩,⟨165,k165⟩,⟨213,k213⟩,⟨221,k221⟩,⟨222,k222⟩,⟨223,k223⟩,⟨228,k228⟩] GC2
abbrev zw1:=Int × ze
def zFA(r:zw1):Ans:=⟨(zg r.1),[.cells 112 [.own 1],.arr 46 (.i .u32) r.2.words]⟩
inductive zwN where | l0 (x0:Bool) (x1:Int) | l4 (v0:znO) (x0:Bool) (x1:Int) (x2:List Int) (x3:List zU) | l8 (v0:znO) (x0:Int) (x1:List Int) (x2:List zU) (x3:Nat) | l12 (v0:znO) (x0:Int) (x1:Int) (x2:Int) (x3:List Int) (x4:List zU) (x5:Nat) (x6:Int) (x7:Int) (x8:List (List Int)) | l75 (v0:znO) (x0:Int) (x1:Int) (x2:Int) (x3:List Int) (x4:List zU) (x5:Nat) (x6:Int) (x7:Int) (x8:List (List Int))
def H212:zaa:=⟨fun n=>[37].any (Nat.beq n),zgf [(0,⟨fgt [0,1,3,4,11,13,44,45,46] 142 0,[]⟩),(4,⟨fgt [0,1,3,4,11,16,17,18,67,68,69] 142 0,[(.slot 18,.own 301 .sQueueRow)]⟩),(8,⟨fgt [0,1,3,11,16,18,91,92,93] 142 0,[(.slot 18,.low 2)]⟩),(12,⟨fgt [0,1,3,11,16,18,24,25,91,92,93,103,104,105] 142 0,[(.slot 18,.low 2)]⟩),(75,⟨fgt [0,1,3,11,16,18,24,25,91,92,93,103,104,105] 142 0,[]⟩)],[],G0,(fun e=>match e with | 301=>[(2,53)] | _=>[])⟩
def zOI(stage:Int)(words:Int)(depth:Int)(ports:(List Int))(ws:List Int):zwN->Nat × St | .l0 x0 x1=>(0,⟨mkE [(0,.ref 0 0),(1,(zg stage)),(3,(zg depth)),(4,.sl (.i .i64) ports),(11,.ref 2 0),(13,(avB x0)),(44,.sl (.i .i64) ports),(45,(zg ports.length)),(46,(zg x1))] 142 0,[.cells 112 [.own 1],.arr 46 (.i .u32) ws,.cells 299 [(zg words),(zg depth)]],GL,2,[],(fun e=>match e with | 301=>[(2,53)] | _=>[])⟩) | .l4 v0 x0 x1 x2 x3=>(4,⟨mkE [(0,.ref 0 0),(1,(zg stage)),(3,(zg depth)),(4,.sl (.i .i64) ports),(11,.ref 2 0),(16,.ref 3 0),(17,(avB x0)),(18,.own 5),(67,.sl (.i .i64) ports),(68,(zg ports.length)),(69,(zg x1))] 142 0,[.cells 112 [.own 1],.arr 46 (.i .u32) x2,.cells 299 [(zg words),(zg depth)],.cells 301 [(zr v0.1.first),(zr v0.1.lost),.own 4],.arr 53 (.sl (.i .u32)) v0.1.messages,.row 301 .sQueueRow [(2,53)] [] x3],GL,2,[],(fun e=>match e with | 301=>[(2,53)] | _=>[])⟩) | .l8 v0 x0 x1 x2 x3=>(8,⟨mkE [(0,.ref 0 0),(1,(zg stage)),(3,(zg depth)),(11,.ref 2 0),(16,.ref 3 0),(18,.own 5),(91,.sl (.i .i64) ports),(92,(zg ports.length)),(93,(zg x0))] 142 0,[.cells 112 [.own 1],.arr 46 (.i .u32) x1,.cells 299 [(zg words),(zg depth)],.cells 301 [(zr v0.1.first),(zr v0.1.lost),.own 4],.arr 53 (.sl (.i .u32)) v0.1.messages,.row 301 .sQueueRow [(2,53)] [(x3,2,none)] x2],GL,2,[],(fun e=>match e with | 301=>[(2,53)] | _=>[])⟩) | .l12 v0 x0 x1 x2 x3 x4 x5 x6 x7 x8=>(12,⟨mkE [(0,.ref 0 0),(1,(zg stage)),(3,(zg depth)),(11,.ref 2 0),(16,.ref 3 0),(18,.own 5),(24,(zg x0)),(25,.ref 6 0),(91,.sl (.i .i64) ports),(92,(zg ports.length)),(93,(zg x1)),(103,.own 4),(104,(zg v0.1.messages.length)),(105,(zg x2))] 142 0,[.cells 112 [.own 1],.arr 46 (.i .u32) x3,.cells 299 [(zg words),(zg depth)],.cells 301 [(zr v0.1.first),(zr v0.1.lost),.own 4],.arr 53 (.sl (.i .u32)) v0.1.messages,.row 301 .sQueueRow [(2,53)] [(x5,2,none)] x4,.cells 301 [(zr x6),(zr x7),.own 7],.arr 53 (.sl (.i .u32)) x8],GL,2,[],(fun e=>match e with | 301=>[(2,53)] | _=>[])⟩) | .l75 v0 x0 x1 x2 x3 x4 x5 x6 x7 x8=>(75,⟨mkE [(0,.ref 0 0),(1,(zg stage)),(3,(zg depth)),(11,.ref 2 0),(16,.ref 3 0),(18,.own 5),(24,(zg x0)),(25,.ref 6 0),(91,.sl (.i .i64) ports),(92,(zg ports.length)),(93,(zg x1)),(103,.own 4),(104,(zg v0.1.messages.length)),(105,(zg x2))] 142 0,[.cells 112 [.own 1],.arr 46 (.i .u32) x3,.cells 299 [(zg words),(zg depth)],.cells 301 [(zr v0.1.first),(zr v0.1.lost),.own 4],.arr 53 (.sl (.i .u32)) v0.1.messages,.row 301 .sQueueRow [(2,53)] [(x5,2,none)] x4,.cells 301 [(zr x6),(zr x7),.own 7],.arr 53 (.sl (.i .u32)) x8],GL,2,[],(fun e=>match e with | 301=>[(2,53)] | _=>[])⟩)
def zeh(stage:Int)(words:Int)(depth:Int)(ports:(List Int))(ws:List Int):zwN->Tree zwN zw1 | .l0 x0 x1 =>let y1:=(⟨words,depth⟩:zy);let y2:=i64.wrap (x1+1);let y3:=(⟨ws⟩:ze);.c (decide (x1<ports.length)) (.g (zN x1 ports.length) <| .c x0 (.b (zex y1 (some y3) (zw ports x1.toNat) 3) fun r2=>.j (.l0 r2 y2)) (.j (.l0 false y2))) (.c (!x0) (.r (51,y3)) (.b (zgJ y1 stage ws) fun r3=>.j (.l4 r3 r3.2.1 0 r3.2.2.words []))) | .l4 v0 x0 x1 x2 x3 =>let y1:=(x3:List zU);let y2:=i64.wrap (x1+1);.c (decide (x1<ports.length)) (.g (zN x1 ports.length) <| .b (zgH (⟨words,depth⟩:zy) (zw ports x1.toNat) x2) fun r4=>.c x0 (.g (leB ((y1.length+([r4.1]:List zU).length)*32) 140737488355328) <| .j (.l4 v0 r4.2.1 y2 r4.2.2.words (y1++[r4.1]))) (.g (leB ((y1.length+([r4.1]:List zU).length)*32) 140737488355328) <| .j (.l4 v0 false y2 r4.2.2.words (y1++[r4.1])))) (.c (!x0) (.r (201,(⟨x2⟩:ze))) (.j (.l8 v0 0 x2 x3 0))) | .l8 v0 x0 x1 x2 x3 =>let y1:=zhH x2 x0.toNat;.c (decide (x0<ports.length)) (.g (zN x0 ports.length) <| .g (zN x0 x2.length) <| .g ((Nat.ble x3 x0.toNat&&true)&&true) <| .j (.l12 v0 (zw ports x0.toNat) x0 0 x1 x2 (Nat.max (x0.toNat+1) (Nat.max x3 0)) (y1.first) (y1.lost) (y1.messages))) (.b (zeU (⟨words,depth⟩:zy) stage (⟨0,0,[]⟩:zU) [0] x1) fun r5=>.r (0,r5)) | .l12 v0 x0 x1 x2 x3 x4 x5 x6 x7 x8 =>let y1:=(x8:List (List Int));.c (decide (x2<v0.1.messages.length)) (.g (zN x2 v0.1.messages.length) <| .c (decide ((x8.length:Int)<depth)) (.g (leB ((y1.length+([zW v0.1.messages x2.toNat]:List (List Int)).length)*24) 140737488355328) <| .j (.l75 v0 x0 x1 x2 x3 x4 x5 x6 x7 (y1++[zW v0.1.messages x2.toNat]))) (.c (decide (x7<4294967295)) (.j (.l75 v0 x0 x1 x2 x3 x4 x5 x6 (u32.wrap (x7+1)) x8)) (.j (.l75 v0 x0 x1 x2 x3 x4 x5 x6 x7 x8)))) (.b (zgG (⟨words,depth⟩:zy) x0 (⟨x6,x7,x8⟩:zU) x3) fun r6=>.j (.l8 v0 (i64.wrap (x1+1)) r6.words x4 (Nat.max x5 0))) | .l75 v0 x0 x1 x2 x3 x4 x5 x6 x7 x8=>.j (.l12 v0 x0 x1 (i64.wrap (x2+1)) x3 x4 (Nat.max x5 0) x6 x7 x8)
def zzV(stage:Int)(words:Int)(depth:Int)(ports:(List Int))(ws:List Int):Tree zwN zw1:=.c (!(((zgw (some (⟨ws⟩:ze)) (⟨words,depth⟩:zy)):Int)==0)) (.r ((zgw (some (⟨ws⟩:ze)) (⟨words,depth⟩:zy)),(⟨ws⟩:ze))) (.c (decide ((ports.length:Int)>4)) (.r (2,(⟨ws⟩:ze))) (.b (zex (⟨words,depth⟩:zy) (some (⟨ws⟩:ze)) stage 1) fun r1=>.j (.l0 r1 0)))
def zbP(stage:Int)(words:Int)(depth:Int)(ports:(List Int))(ws:List Int):zwN->Option zw1:=zan (zeh stage words depth ports ws)
theorem zch(stage:Int)(words:Int)(depth:Int)(ports:(List Int))(ws:List Int)(l:zwN):zbP stage words depth ports ws l=(zeh stage words depth ports ws l).run (zbP stage words depth ports ws):=zF _ l
def zkr(stage:Int)(words:Int)(depth:Int)(ports:(List Int))(ws:List Int):Option zw1:=(zzV stage words depth ports ws).run (zbP stage words depth ports ws)
theorem zIF(stage:Int)(words:Int)(depth:Int)(ports:(List Int))(ws:List Int):Oks 212 [.ref 0 0,(zg stage),(zg words),(zg depth),.sl (.i .i64) ports] [.cells 112 [.own 1],.arr 46 (.i .u32) ws] (zkr stage words depth ports ws) zFA:=zM GC3 (H:=H212) zJ Tryz.func212 rfl (by kernel_rfl) (zOI stage words depth ports ws) (fun J l=>by cases l <;> kernel_rfl) (fun J=>by kernel_rfl)
abbrev R14:=Bool
def to14(r:R14):Ans:=⟨(avB r),[]⟩
inductive L14 where | l0 (x0:Int)
def H14:zaa:=htt [] [(0,⟨fgt [2,3,4,5,6,11] 51 0,[]⟩)] []
def st14(c:za)(o:zp)(told:Int)(was:(List Int))(now:(List Int)):L14->Nat × St | .l0 x0=>(0,⟨mkE [(2,(zr told)),(3,.sl (.i .u32) was),(4,.sl (.i .u32) now),(5,.ref 0 0),(6,.ref 1 0),(11,(zg x0))] 51 0,[.cells 26 (Ty.enc .sConfig c),.cells 49 (Ty.enc .sBulkheadlaw25Op o)],GL,0,[],zO⟩)
def zuE(c:za)(o:zp)(told:Int)(was:(List Int))(now:(List Int)):L14->Tree L14 R14 | .l0 x0 =>let y1:=i64.wrap (x0+1);.c (decide (x0<was.length)) (.g (zN x0 was.length) <| .g (zN x0 now.length) <| .c ((zw was x0.toNat:Int)==zw now x0.toNat) (.j (.l0 y1)) (.b (zvN c x0) fun r1=>.c (!((r1.2:Int)==0)) (.r false) (.b (zns c o told x0 r1.1) fun r2=>.c (!r2) (.r false) (.j (.l0 y1))))) (.r true)
def zEg(c:za)(o:zp)(told:Int)(was:(List Int))(now:(List Int)):Tree L14 R14:=.c (!((was.length:Int)==now.length)) (.r false) (.j (.l0 0))
def zsi(c:za)(o:zp)(told:Int)(was:(List Int))(now:(List Int)):L14->Option R14:=zan (zuE c o told was now)
theorem zsj(c:za)(o:zp)(told:Int)(was:(List Int))(now:(List Int))(l:L14):zsi c o told was now l=(zuE c o told was now l).run (zsi c o told was now):=zF _ l
def zla(c:za)(o:zp)(told:Int)(was:(List Int))(now:(List Int)):Option R14:=(zEg c o told was now).run (zsi c o told was now)
theorem zMP(c:za)(o:zp)(told:Int)(was:(List Int))(now:(List Int)):Oks 14 [.agg (Ty.enc .sConfig c),.agg (Ty.enc .sBulkheadlaw25Op o),(zr told),.sl (.i .u32) was,.sl (.i .u32) now] [] (zla c o told was now) to14:=zM GC3 (H:=H14) zJ Tryz.func14 rfl (by kernel_rfl) (st14 c o told was now) (fun J l=>by cases l <;> kernel_rfl) (fun J=>by kernel_rfl)
abbrev zGc:=Int × Int × ze
def zFz(r:zGc):Ans:=⟨.tup [(zg r.1),(zg r.2.1)],[.cells 112 [.own 1],.arr 46 (.i .u32) r.2.2.words]⟩
def zkq(stage:Int)(words:Int)(depth:Int)(ws:List Int):Option zGc:=Tree.run0 <|
 .c (!(((zgw (some (⟨ws⟩:ze)) (⟨words,depth⟩:zy)):Int)==0))
 (.r (0,(zgw (some (⟨ws⟩:ze)) (⟨words,depth⟩:zy)),(⟨ws⟩:ze)))
 (.b (zgI (⟨words,depth⟩:zy) stage ws) fun r1=>
 .r (r1.1.messages.length,r1.2.1,r1.2.2))
theorem zIE(stage:Int)(words:Int)(depth:Int)(ws:List Int):Oks 211 [.ref 0 0,(zg stage),(zg words),(zg depth)] [.cells 112 [.own 1],.arr 46 (.i .u32) ws] (zkq stage words depth ws) zFz:=zL GC3 (H:=H0) zJ Tryz.func211 rfl (by kernel_rfl) (fun J=>by kernel_rfl)
abbrev R218:=Int × Int
def zPS(r:R218):Ans:=⟨.tup [(zg r.1),(zg r.2)],[]⟩
def znj(k:zbb)(m:(Option ze)):Option R218:=Tree.run0 <|
 .b (zui m k.ends.stage k.ends.words) fun r1=>
 .r (r1.1,r1.2)
theorem zIL(k:zbb)(m:(Option ze)):Oks 218 [.agg (Ty.enc .sDuctLast k),.op .sMemMemory m] [] (znj k m) zPS:=zL GC3 (H:=H0) zJ Tryz.func218 rfl (by kernel_rfl) (fun J=>by kernel_rfl)
abbrev zFX:=Int × ze
def zFg(r:zFX):Ans:=⟨(zg r.1),[.cells 112 [.own 1],.arr 46 (.i .u32) r.2.words]⟩
def zqC(w:(Option zaf))(p:Int)(ws:List Int):Option zFX:=Tree.run0 <|
 .b (zkh w p 3 ws) fun r1=>
 .r (r1.1,r1.2)
theorem zHx(w:(Option zaf))(p:Int)(ws:List Int):Oks 107 [.op .sHealthWards w,.ref 0 0,(zg p)] [.cells 112 [.own 1],.arr 46 (.i .u32) ws] (zqC w p ws) zFg:=zL GC3 (H:=H0) zJ Tryz.func107 rfl (by kernel_rfl) (fun J=>by kernel_rfl)
abbrev zw2:=Int × ze
def zFG(r:zw2):Ans:=⟨(zg r.1),[.cells 112 [.own 1],.arr 46 (.i .u32) r.2.words]⟩
inductive zwP where | l0 (x0:Int) (x1:List Int) | l4 (v0:zGh) (x0:Int) (x1:List Int)
def H224:zaa:=htt [] [(0,⟨fgt [0,38,39,40] 81 0,[]⟩),(4,⟨fgt [0,1,2,14,65,66,67] 81 0,[]⟩)] []
def zOK(stage:Int)(words:Int)(ports:(List Int))(ws:List Int):zwP->Nat × St | .l0 x0 x1=>(0,⟨mkE [(0,.ref 0 0),(38,.sl (.i .i64) ports),(39,(zg ports.length)),(40,(zg x0))] 81 0,[.cells 112 [.own 1],.arr 46 (.i .u32) x1],GL,2,[],zO⟩) | .l4 v0 x0 x1=>(4,⟨mkE [(0,.ref 0 0),(1,(zg stage)),(2,(zg words)),(14,.own 2),(65,.sl (.i .i64) ports),(66,(zg ports.length)),(67,(zg x0))] 81 0,[.cells 112 [.own 1],.arr 46 (.i .u32) x1,.arr 46 (.i .u32) ((zcA (List.set (List.set (List.set (List.replicate (i64.wrap (3+words)).toNat (0:Int)) 0 1) 1 1) 2 (u32.wrap v0.1.length)) 3 (List.take (((List.set (List.set (List.set (List.replicate (i64.wrap (3+words)).toNat (0:Int)) 0 1) 1 1) 2 (u32.wrap v0.1.length)).length:Int).toNat-3) (v0.1:List Int))):List Int)],GL,2,[],zO⟩)
def zjG(stage:Int)(words:Int)(ports:(List Int))(ws:List Int):zwP->Tree zwP zw2 | .l0 x0 x1=>.c (decide (x0<ports.length)) (.g (zN x0 ports.length) <| .b (zdN (i64.wrap (zw ports x0.toNat+1)) 0 x1) fun r3=>.j (.l0 (i64.wrap (x0+1)) r3.2.words)) (.r (0,(⟨x1⟩:ze))) | .l4 v0 x0 x1 =>let y1:=(List.set (List.set (List.set (List.replicate (i64.wrap (3+words)).toNat (0:Int)) 0 1) 1 1) 2 (u32.wrap v0.1.length));.c (decide (x0<ports.length)) (.g (zN x0 ports.length) <| .b (zeV (zw ports x0.toNat) (zcA y1 3 (List.take ((y1.length:Int).toNat-3) (v0.1:List Int))) x1) fun r4=>.j (.l4 v0 (i64.wrap (x0+1)) r4.2.words)) (.b (zku stage (i64.wrap (2+words)) 0 x1) fun r5=>.r (r5.1,r5.2))
def zzX(stage:Int)(words:Int)(ports:(List Int))(ws:List Int):Tree zwP zw2:=.b (znl (some (⟨ws⟩:ze)) stage words ports) fun r1=>.c (!((r1:Int)==0)) (.r (r1,(⟨ws⟩:ze))) (.b (zcY (some (⟨ws⟩:ze)) stage words 2) fun r2=>.c (!((r2.2:Int)==0)) (.r (r2.2,(⟨ws⟩:ze))) (.c ((r2.1.length:Int)==0) (.j (.l0 0 ws)) (.g (decide (((i64.wrap (3+words)):Int)=(i64.wrap (3+words)))&&decide (0<=(i64.wrap (3+words)))&&leB ((i64.wrap (3+words)).toNat*4) 140737488355328) <| .g (zN 0 (List.replicate (i64.wrap (3+words)).toNat (0:Int)).length) <| .g (zN 1 (List.set (List.replicate (i64.wrap (3+words)).toNat (0:Int)) 0 1).length) <| .g (zN 2 (List.set (List.set (List.replicate (i64.wrap (3+words)).toNat (0:Int)) 0 1) 1 1).length) <| .g (inS 3 ((List.set (List.set (List.set (List.replicate (i64.wrap (3+words)).toNat (0:Int)) 0 1) 1 1) 2 (u32.wrap r2.1.length)).length) (List.set (List.set (List.set (List.replicate (i64.wrap (3+words)).toNat (0:Int)) 0 1) 1 1) 2 (u32.wrap r2.1.length)).length) <| .j (.l4 r2 0 ws))))
def zh8(stage:Int)(words:Int)(ports:(List Int))(ws:List Int):zwP->Option zw2:=zan (zjG stage words ports ws)
theorem zhg(stage:Int)(words:Int)(ports:(List Int))(ws:List Int)(l:zwP):zh8 stage words ports ws l=(zjG stage words ports ws l).run (zh8 stage words ports ws):=zF _ l
def zkt(stage:Int)(words:Int)(ports:(List Int))(ws:List Int):Option zw2:=(zzX stage words ports ws).run (zh8 stage words ports ws)
theorem zIR(stage:Int)(words:Int)(ports:(List Int))(ws:List Int):Oks 224 [.ref 0 0,(zg stage),(zg words),.sl (.i .i64) ports] [.cells 112 [.own 1],.arr 46 (.i .u32) ws] (zkt stage words ports ws) zFG:=zM GC3 (H:=H224) zJ Tryz.func224 rfl (by kernel_rfl) (zOK stage words ports ws) (fun J l=>by cases l <;> kernel_rfl) (fun J=>by kernel_rfl)
abbrev R144:=Int × Int
def zPn(r:R144):Ans:=⟨.tup [(zg r.1),(zg r.2)],[]⟩
def zia(m:(Option ze))(root:Int)(at_2:Int)(rights:Int):Option R144:=Tree.run0 <|
 .c m.isNone
 (.r (0,3))
 (.c (decide ((rights:Int)<0))
 (.r (0,90))
 (.c (decide ((rights:Int)>7))
 (.r (0,90))
 (.b (zki m root) fun r1=>
 .c (!r1)
 (.r (0,91))
 (.c (decide ((at_2:Int)<0))
 (.r (0,92))
 (.c (decide ((at_2:Int)>=4096))
 (.r (0,92))
 (.b (zic m root (bop .quo .i64 at_2 16)) fun r2=>
 .c (!((r2.2:Int)==0))
 (.r (0,r2.2))
 (.c (!(((bop .andNot .i64 rights r2.1.rights):Int)==0))
 (.r (0,93))
 (.r ((i64.wrap ((i64.wrap (r2.1.frame*16))+(bop .rem .i64 at_2 16))),0)))))))))
theorem zHV(m:(Option ze))(root:Int)(at_2:Int)(rights:Int):Oks 144 [.op .sMemMemory m,(zg root),(zg at_2),(zg rights)] [] (zia m root at_2 rights) zPn:=zL GC3 (H:=H0) zJ Tryz.func144 rfl (by kernel_rfl) (fun J=>by kernel_rfl)
abbrev zGa:=(List Int) × Bool × Int × ze
def zFx(r:zGa):Ans:=⟨.tup [.sl (.i .u32) r.1,(avB r.2.1),(zg r.2.2.1)],[.cells 112 [.own 1],.arr 46 (.i .u32) r.2.2.2.words]⟩
def H209:zaa:=⟨fun _=>false,fun _=>⟨[],[]⟩,[(.slot 0,.sl (.i .u32))],G0,zO⟩
def zko(pl:Int)(words:Int)(depth:Int)(ws:List Int):Option zGa:=Tree.run0 <|
 .b (zeT pl words depth ws) fun r1=>
 .c (!((r1.2.2.1:Int)==0))
 (.r ([],false,r1.2.2.1,r1.2.2.2))
 (.c ((r1.2.1.messages.length:Int)==0)
 (.r ([],false,r1.2.2.1,r1.2.2.2))
 (.g (zN 0 r1.2.1.messages.length) <|
 .r (zW r1.2.1.messages 0,true,0,r1.2.2.2)))
theorem zIC(pl:Int)(words:Int)(depth:Int)(ws:List Int):Oks 209 [.ref 0 0,(zg pl),(zg words),(zg depth)] [.cells 112 [.own 1],.arr 46 (.i .u32) ws] (zko pl words depth ws) zFx:=zL GC3 (H:=H209) zJ Tryz.func209 rfl (by kernel_rfl) (fun J=>by kernel_rfl)
abbrev zF9:=Int × Int × Int × ze
def zFw(r:zF9):Ans:=⟨.tup [(zg r.1),(zr r.2.1),(zg r.2.2.1)],[.cells 112 [.own 1],.arr 46 (.i .u32) r.2.2.2.words]⟩
def zie(pl:Int)(words:Int)(depth:Int)(ws:List Int):Option zF9:=Tree.run0 <|
 .b (zeT pl words depth ws) fun r1=>
 .r (r1.2.1.messages.length,r1.2.1.lost,r1.2.2.1,r1.2.2.2)
theorem zIB(pl:Int)(words:Int)(depth:Int)(ws:List Int):Oks 208 [.ref 0 0,(zg pl),(zg words),(zg depth)] [.cells 112 [.own 1],.arr 46 (.i .u32) ws] (zie pl words depth ws) zFw:=zL GC3 (H:=H0) zJ Tryz.func208 rfl (by kernel_rfl) (fun J=>by kernel_rfl)
abbrev zGe:=Bool × Int × ze
def zFD(r:zGe):Ans:=⟨.tup [(avB r.1),(zg r.2.1)],[.cells 112 [.own 1],.arr 46 (.i .u32) r.2.2.words]⟩
def zks(k:zbb)(message:(List Int))(ws:List Int):Option zGe:=Tree.run0 <|
 .b (znk k.ends.stage k.ends.words message ws) fun r1=>
 .r (((r1.1:Int)==0),r1.1,r1.2)
theorem zIK(k:zbb)(message:(List Int))(ws:List Int):Oks 217 [.agg (Ty.enc .sDuctLast k),.ref 0 0,.sl (.i .u32) message] [.cells 112 [.own 1],.arr 46 (.i .u32) ws] (zks k message ws) zFD:=zL GC3 (H:=H0) zJ Tryz.func217 rfl (by kernel_rfl) (fun J=>by kernel_rfl)
abbrev R97:=Int × ze
def to97(r:R97):Ans:=⟨(zg r.1),[.cells 112 [.own 1],.arr 46 (.i .u32) r.2.words]⟩
def zv1(w:(Option zaf))(p:Int)(ws:List Int):Option R97:=Tree.run0 <|
 .b (zkh w p 1 ws) fun r1=>
 .r (r1.1,r1.2)
theorem zN2(w:(Option zaf))(p:Int)(ws:List Int):Oks 97 [.op .sHealthWards w,.ref 0 0,(zg p)] [.cells 112 [.own 1],.arr 46 (.i .u32) ws] (zv1 w p ws) to97:=zL GC3 (H:=H0) zJ Tryz.func97 rfl (by kernel_rfl) (fun J=>by kernel_rfl)
abbrev zyu:=Bool
def zPc(r:zyu):Ans:=⟨(avB r),[]⟩
inductive zwq where | l0 (x0:Int) | l4 (x0:Int) (x1:List Region) (x2:Int) (x3:Int)
def H127:zaa:=htt [] [(0,⟨fgt [1,28,29,30] 65 0,[]⟩),(4,⟨fgt [1,28,29,30,35,36,37] 65 0,[]⟩)] []
def zOl(c:za):zwq->Nat × St | .l0 x0=>(0,⟨mkE [(1,.ref 0 0),(28,.sl .sPartition c.partitions),(29,(zg c.partitions.length)),(30,(zg x0))] 65 0,[.cells 26 (Ty.enc .sConfig c)],GL,0,[],zO⟩) | .l4 x0 x1 x2 x3=>(4,⟨mkE [(1,.ref 0 0),(28,.sl .sPartition c.partitions),(29,(zg c.partitions.length)),(30,(zg x0)),(35,.sl .sRegion x1),(36,(zg x2)),(37,(zg x3))] 65 0,[.cells 26 (Ty.enc .sConfig c)],GL,0,[],zO⟩)
def zjC(c:za):zwq->Tree zwq zyu | .l0 x0 =>let y1:=(zb c.partitions x0.toNat).regions;.c (decide (x0<c.partitions.length)) (.g (zN x0 c.partitions.length) <| .j (.l4 x0 y1 (y1.length) 0)) (.b (zne c) fun r1=>.c ((r1.2:Int)==0) (.r (decide ((r1.1:Int)<=c.room))) (.r false)) | .l4 x0 x1 x2 x3 =>let y1:=zh x1 x3.toNat;.c (decide (x3<x2)) (.g (zN x3 x1.length) <| .c (zvA (y1.frame) (y1.pages) c.kernel c.room) (.r false) (.j (.l4 x0 x1 x2 (i64.wrap (x3+1))))) (.j (.l0 (i64.wrap (x0+1))))
def zzE(c:za):Tree zwq zyu:=.c (!(zaZ c.kernel 0 (i64.wrap (c.frames-1)))) (.r false) (.c (!(zaZ c.room 1 (i64.wrap (c.frames-c.kernel)))) (.r false) (.j (.l0 0)))
def zkb(c:za):zwq->Option zyu:=zan (zjC c)
theorem zhc(c:za)(l:zwq):zkb c l=(zjC c l).run (zkb c):=zF _ l
def zkg(c:za):Option zyu:=(zzE c).run (zkb c)
theorem zHI(c:za):Oks 127 [.agg (Ty.enc .sConfig c)] [] (zkg c) zPc:=zM GC3 (H:=H127) zJ Tryz.func127 rfl (by kernel_rfl) (zOl c) (fun J l=>by cases l <;> kernel_rfl) (fun J=>by kernel_rfl)
abbrev zGb:=Bool × Int × ze
def zFy(r:zGb):Ans:=⟨.tup [(avB r.1),(zg r.2.1)],[.cells 112 [.own 1],.arr 46 (.i .u32) r.2.2.words]⟩
def zkp(stage:Int)(words:Int)(depth:Int)(message:(List Int))(ws:List Int):Option zGb:=Tree.run0 <|
 .c (!(((zgw (some (⟨ws⟩:ze)) (⟨words,depth⟩:zy)):Int)==0))
 (.r (false,(zgw (some (⟨ws⟩:ze)) (⟨words,depth⟩:zy)),(⟨ws⟩:ze)))
 (.c ((message.length:Int)==0)
 (.r (false,200,(⟨ws⟩:ze)))
 (.c (decide ((message.length:Int)>words))
 (.r (false,200,(⟨ws⟩:ze)))
 (.b (zgI (⟨words,depth⟩:zy) stage ws) fun r1=>
 .c (!((r1.2.1:Int)==0))
 (.r (false,r1.2.1,r1.2.2))
 (.c ((r1.1.messages.length:Int)==depth)
 (.r (false,r1.2.1,r1.2.2))
 (.g (leB (((r1.1.messages:List (List Int)).length+([message]:List (List Int)).length)*24) 140737488355328) <|
 .b (zeU (⟨words,depth⟩:zy) stage (⟨r1.1.first,r1.1.lost,((r1.1.messages:List (List Int))++[message])⟩:zU) ([(u32.wrap (((r1.1.messages:List (List Int))++[message]).length))]) r1.2.2.words) fun r2=>
 .r (true,0,r2))))))
theorem zID(stage:Int)(words:Int)(depth:Int)(message:(List Int))(ws:List Int):Oks 210 [.ref 0 0,(zg stage),(zg words),(zg depth),.sl (.i .u32) message] [.cells 112 [.own 1],.arr 46 (.i .u32) ws] (zkp stage words depth message ws) zFy:=zL GC3 (H:=H0) zJ Tryz.func210 rfl (by kernel_rfl) (fun J=>by kernel_rfl)
abbrev zF0:=Bool × Int × ze
def zFj(r:zF0):Ans:=⟨.tup [(avB r.1),(zg r.2.1)],[.cells 112 [.own 1],.arr 46 (.i .u32) r.2.2.words]⟩
def zib(pl:Int)(words:Int)(depth:Int)(ws:List Int):Option zF0:=Tree.run0 <|
 .b (zeT pl words depth ws) fun r1=>
 .c (!((r1.2.2.1:Int)==0))
 (.r (false,r1.2.2.1,r1.2.2.2))
 (.c ((r1.2.1.messages.length:Int)==0)
 (.r (false,r1.2.2.1,r1.2.2.2))
 (.g (inS 1 r1.2.1.messages.length r1.2.1.messages.length) <|
 .c (decide (((u32.wrap depth):Int)=0))
 (.n)
 (.b (zgG r1.1 pl (⟨(dv .rem .u32 (u32.wrap (r1.2.1.first+1)) (u32.wrap depth)),r1.2.1.lost,((r1.2.1.messages.take (r1.2.1.messages.length:Int).toNat).drop 1)⟩:zU) r1.2.2.2.words) fun r2=>
 .r (true,0,r2))))
theorem zHX(pl:Int)(words:Int)(depth:Int)(ws:List Int):Oks 146 [.ref 0 0,(zg pl),(zg words),(zg depth)] [.cells 112 [.own 1],.arr 46 (.i .u32) ws] (zib pl words depth ws) zFj:=zL GC3 (H:=H0) zJ Tryz.func146 rfl (by kernel_rfl) (fun J=>by kernel_rfl)
abbrev R216:=(List Int) × Int × Bool × Int
def zPR(r:R216):Ans:=⟨.tup [.own 0,(zr r.2.1),(avB r.2.2.1),(zg r.2.2.2)],[.arr 46 (.i .u32) r.1]⟩
def zgK(k:zbb)(m:(Option ze))(port:Int):Option R216:=Tree.run0 <|
 .b (zuh m port k.ends.words) fun r1=>
 .r (r1.1,(zsg r1.2.1),r1.2.2.1,r1.2.2.2)
theorem zIJ(k:zbb)(m:(Option ze))(port:Int):Oks 216 [.agg (Ty.enc .sDuctLast k),.op .sMemMemory m,(zg port)] [] (zgK k m port) zPR:=zL GC3 (H:=H0) zJ Tryz.func216 rfl (by kernel_rfl) (fun J=>by kernel_rfl)
abbrev R141:=Int × Int
def zPl(r:R141):Ans:=⟨.tup [(zg r.1),(zg r.2)],[]⟩
def zna(c:za):Option R141:=Tree.run0 <|
 .b (zgN c) fun r2=>
 .c (!((r2.2:Int)==0))
 (.r (0,r2.2))
 (.r ((i64.wrap (r2.1.end_-c.kernel)),0))
theorem zHS(c:za):Oks 141 [.agg (Ty.enc .sConfig c)] [] (zna c) zPl:=zL GC3 (H:=H0) zJ Tryz.func141 rfl (by kernel_rfl) (fun J=>by kernel_rfl)
def k14:Fk 14:=aF (aS .sConfig fun a0=>aS .sBulkheadlaw25Op fun a1=>aL (.i .u32) fun a2=>aL (.sl (.i .u32)) fun a3=>aL (.sl (.i .u32)) fun a4=>aE (zMP a0 a1 a2 a3 a4))
def g97(args:List AV)(hp:List Blk):Option Rsp:=
 match args,hp with
 | [a0,.ref 0 0,a2],[.cells 112 [.own 1],.arr 46 (.i .u32) y0]=>(rdL (.p .sHealthWards) a0).bind fun b0=>(rdL (.i .i64) a2).bind fun b2=>some ⟨R97,(zv1 b0 b2 y0),to97,default⟩
 | _,_=>none
def k97:Fk 97:=⟨g97,fun args hp y h x hx=>by
 unfold g97 at h
 split at h
 . simp only[Option.bind_eq_some_iff]at h
   obtain ⟨b0,h0,b2,h2,h⟩:=h
   cases h;exact(zN2 b0 b2 _).ats (.cons (z8 h0) (.cons (fun _ _ _ _ h=>h) (.cons (z8 h2) .nil))) hx
 . cases h⟩
def g107(args:List AV)(hp:List Blk):Option Rsp:=
 match args,hp with
 | [a0,.ref 0 0,a2],[.cells 112 [.own 1],.arr 46 (.i .u32) y0]=>(rdL (.p .sHealthWards) a0).bind fun b0=>(rdL (.i .i64) a2).bind fun b2=>some ⟨zFX,(zqC b0 b2 y0),zFg,default⟩
 | _,_=>none
def k107:Fk 107:=⟨g107,fun args hp y h x hx=>by
 unfold g107 at h
 split at h
 . simp only[Option.bind_eq_some_iff]at h
   obtain ⟨b0,h0,b2,h2,h⟩:=h
   cases h;exact(zHx b0 b2 _).ats (.cons (z8 h0) (.cons (fun _ _ _ _ h=>h) (.cons (z8 h2) .nil))) hx
 . cases h⟩
def k127:Fk 127:=aF (aS .sConfig fun a0=>aE (zHI a0))
def k141:Fk 141:=aF (aS .sConfig fun a0=>aE (zHS a0))
def k144:Fk 144:=aF (aL (.p .sMemMemory) fun a0=>aL (.i .i64) fun a1=>aL (.i .i64) fun a2=>aL (.i .i64) fun a3=>aE (zHV a0 a1 a2 a3))
def g146(args:List AV)(hp:List Blk):Option Rsp:=
 match args,hp with
 | [.ref 0 0,a1,a2,a3],[.cells 112 [.own 1],.arr 46 (.i .u32) y0]=>(rdL (.i .i64) a1).bind fun b1=>(rdL (.i .i64) a2).bind fun b2=>(rdL (.i .i64) a3).bind fun b3=>some ⟨zF0,(zib b1 b2 b3 y0),zFj,default⟩
 | _,_=>none
def k146:Fk 146:=⟨g146,fun args hp y h x hx=>by
 unfold g146 at h
 split at h
 . simp only[Option.bind_eq_some_iff]at h
   obtain ⟨b1,h1,b2,h2,b3,h3,h⟩:=h
   cases h;exact(zHX b1 b2 b3 _).ats (.cons (fun _ _ _ _ h=>h) (.cons (z8 h1) (.cons (z8 h2) (.cons (z8 h3) .nil)))) hx
 . cases h⟩
def g208(args:List AV)(hp:List Blk):Option Rsp:=
 match args,hp with
 | [.ref 0 0,a1,a2,a3],[.cells 112 [.own 1],.arr 46 (.i .u32) y0]=>(rdL (.i .i64) a1).bind fun b1=>(rdL (.i .i64) a2).bind fun b2=>(rdL (.i .i64) a3).bind fun b3=>some ⟨zF9,(zie b1 b2 b3 y0),zFw,default⟩
 | _,_=>none
def k208:Fk 208:=⟨g208,fun args hp y h x hx=>by
 unfold g208 at h
 split at h
 . simp only[Option.bind_eq_some_iff]at h
   obtain ⟨b1,h1,b2,h2,b3,h3,h⟩:=h
   cases h;exact(zIB b1 b2 b3 _).ats (.cons (fun _ _ _ _ h=>h) (.cons (z8 h1) (.cons (z8 h2) (.cons (z8 h3) .nil)))) hx
 . cases h⟩
def g209(args:List AV)(hp:List Blk):Option Rsp:=
 match args,hp with
 | [.ref 0 0,a1,a2,a3],[.cells 112 [.own 1],.arr 46 (.i .u32) y0]=>(rdL (.i .i64) a1).bind fun b1=>(rdL (.i .i64) a2).bind fun b2=>(rdL (.i .i64) a3).bind fun b3=>some ⟨zGa,(zko b1 b2 b3 y0),zFx,default⟩
 | _,_=>none
def k209:Fk 209:=⟨g209,fun args hp y h x hx=>by
 unfold g209 at h
 split at h
 . simp only[Option.bind_eq_some_iff]at h
   obtain ⟨b1,h1,b2,h2,b3,h3,h⟩:=h
   cases h;exact(zIC b1 b2 b3 _).ats (.cons (fun _ _ _ _ h=>h) (.cons (z8 h1) (.cons (z8 h2) (.cons (z8 h3) .nil)))) hx
 . cases h⟩
def g210(args:List AV)(hp:List Blk):Option Rsp:=
 match args,hp with
 | [.ref 0 0,a1,a2,a3,a4],[.cells 112 [.own 1],.arr 46 (.i .u32) y0]=>(rdL (.i .i64) a1).bind fun b1=>(rdL (.i .i64) a2).bind fun b2=>(rdL (.i .i64) a3).bind fun b3=>(rdL (.sl (.i .u32)) a4).bind fun b4=>some ⟨zGb,(zkp b1 b2 b3 b4 y0),zFy,default⟩
 | _,_=>none
def k210:Fk 210:=⟨g210,fun args hp y h x hx=>by
 unfold g210 at h
 split at h
 . simp only[Option.bind_eq_some_iff]at h
   obtain ⟨b1,h1,b2,h2,b3,h3,b4,h4,h⟩:=h
   cases h;exact(zID b1 b2 b3 b4 _).ats (.cons (fun _ _ _ _ h=>h) (.cons (z8 h1) (.cons (z8 h2) (.cons (z8 h3) (.cons (z8 h4) .nil))))) hx
 . cases h⟩
def g211(args:List AV)(hp:List Blk):Option Rsp:=
 match args,hp with
 | [.ref 0 0,a1,a2,a3],[.cells 112 [.own 1],.arr 46 (.i .u32) y0]=>(rdL (.i .i64) a1).bind fun b1=>(rdL (.i .i64) a2).bind fun b2=>(rdL (.i .i64) a3).bind fun b3=>some ⟨zGc,(zkq b1 b2 b3 y0),zFz,default⟩
 | _,_=>none
def k211:Fk 211:=⟨g211,fun args hp y h x hx=>by
 unfold g211 at h
 split at h
 . simp only[Option.bind_eq_some_iff]at h
   obtain ⟨b1,h1,b2,h2,b3,h3,h⟩:=h
   cases h;exact(zIE b1 b2 b3 _).ats (.cons (fun _ _ _ _ h=>h) (.cons (z8 h1) (.cons (z8 h2) (.cons (z8 h3) .nil)))) hx
 . cases h⟩
def g212(args:List AV)(hp:List Blk):Option Rsp:=
 match args,hp with
 | [.ref 0 0,a1,a2,a3,a4],[.cells 112 [.own 1],.arr 46 (.i .u32) y0]=>(rdL (.i .i64) a1).bind fun b1=>(rdL (.i .i64) a2).bind fun b2=>(rdL (.i .i64) a3).bind fun b3=>(rdL (.sl (.i .i64)) a4).bind fun b4=>some ⟨zw1,(zkr b1 b2 b3 b4 y0),zFA,default⟩
 | _,_=>none
def k212:Fk 212:=⟨g212,fun args hp y h x hx=>by
 unfold g212 at h
 split at h
 . simp only[Option.bind_eq_some_iff]at h
   obtain ⟨b1,h1,b2,h2,b3,h3,b4,h4,h⟩:=h
   cases h;exact(zIF b1 b2 b3 b4 _).ats (.cons (fun _ _ _ _ h=>h) (.cons (z8 h1) (.cons (z8 h2) (.cons (z8 h3) (.cons (z8 h4) .nil))))) hx
 . cases h⟩
def k216:Fk 216:=aF (aS .sDuctLast fun a0=>aL (.p .sMemMemory) fun a1=>aL (.i .i64) fun a2=>aE (zIJ a0 a1 a2))
def g217(args:List AV)(hp:List Blk):Option Rsp:=
 match args,hp with
 | [a0,.ref 0 0,a2],[.cells 112 [.own 1],.arr 46 (.i .u32) y0]=>(rdS .sDuctLast a0).bind fun b0=>(rdL (.sl (.i .u32)) a2).bind fun b2=>some ⟨zGe,(zks b0 b2 y0),zFD,default⟩
 | _,_=>none
def k217:Fk 217:=⟨g217,fun args hp y h x hx=>by
 unfold g217 at h
 split at h
 . simp only[Option.bind_eq_some_iff]at h
   obtain ⟨b0,h0,b2,h2,h⟩:=h
   cases h;exact(zIK b0 b2 _).ats (.cons (zct h0) (.cons (fun _ _ _ _ h=>h) (.cons (z8 h2) .nil))) hx
 . cases h⟩
def k218:Fk 218:=aF (aS .sDuctLast fun a0=>aL (.p .sMemMemory) fun a1=>aE (zIL a0 a1))
def g224(args:List AV)(hp:List Blk):Option Rsp:=
 match args,hp with
 | [.ref 0 0,a1,a2,a3],[.cells 112 [.own 1],.arr 46 (.i .u32) y0]=>(rdL (.i .i64) a1).bind fun b1=>(rdL (.i .i64) a2).bind fun b2=>(rdL (.sl (.i .i64)) a3).bind fun b3=>some ⟨zw2,(zkt b1 b2 b3 y0),zFG,default⟩
 | _,_=>none
def k224:Fk 224:=⟨g224,fun args hp y h x hx=>by
 unfold g224 at h
 split at h
 . simp only[Option.bind_eq_some_iff]at h
   obtain ⟨b1,h1,b2,h2,b3,h3,h⟩:=h
   cases h;exact(zIR b1 b2 b3 _).ats (.cons (fun _ _ _ _ h=>h) (.cons (z8 h1) (.cons (z8 h2) (.cons (z8 h3) .nil)))) hx
 . cases h⟩
def GC4:GK:=zlj [⟨14,k14⟩,⟨97,k97⟩,⟨107,k107⟩,⟨127,k127⟩,⟨141,k141⟩,⟨144,k144⟩,⟨146,k146⟩,⟨208,k208⟩,⟨209,k209⟩,⟨210,k210⟩,⟨211,k211⟩,⟨212,k212⟩,⟨216,k216⟩,⟨217,k217⟩,⟨218,k218⟩,⟨224,k224⟩] GC3
abbrev R89:=Bool
def to89(r:R89):Ans:=⟨(avB r),[]⟩
inductive L89 where | l0 (x0:Int) | l4 (x0:Int) (x1:Int)
def H89:zaa:=htt [] [(0,⟨fgt [1,3] 75 0,[]⟩),(4,⟨fgt [1,3,4] 75 0,[]⟩)] []
def st89(c:za):L89->Nat × St | .l0 x0=>(0,⟨mkE [(1,.ref 0 0),(3,(zg x0))] 75 0,[.cells 26 (Ty.enc .sConfig c)],GL,0,[],zO⟩) | .l4 x0 x1=>(4,⟨mkE [(1,.ref 0 0),(3,(zg x0)),(4,(zg x1))] 75 0,[.cells 26 (Ty.enc .sConfig c)],GL,0,[],zO⟩)
def zoa(c:za):L89->Tree L89 R89 | .l0 x0=>.c (decide (x0<c.partitions.length)) (.j (.l4 x0 0)) (.b (zna c) fun r1=>.c ((r1.2:Int)==0) (.r (decide ((r1.1:Int)<=c.room))) (.r false)) | .l4 x0 x1 =>let y1:=(zb c.partitions x0.toNat).regions;let y2:=zN x0 c.partitions.length;let y3:=zh y1 x1.toNat;.g y2 <| .c (decide (x1<y1.length)) (.g y2 <| .g (zN x1 y1.length) <| .c (zoV (y3.frame) (y3.pages) c.kernel c.room) (.r false) (.j (.l4 x0 (i64.wrap (x1+1))))) (.j (.l0 (i64.wrap (x0+1))))
def zEL(c:za):Tree L89 R89:=.c (!(zaP c.kernel 0 (i64.wrap (c.frames-1)))) (.r false) (.c (!(zaP c.room 1 (i64.wrap (c.frames-c.kernel)))) (.r false) (.j (.l0 0)))
def zpd(c:za):L89->Option R89:=zan (zoa c)
theorem zjg(c:za)(l:L89):zpd c l=(zoa c l).run (zpd c):=zF _ l
def zpj(c:za):Option R89:=(zEL c).run (zpd c)
theorem zNU(c:za):Oks 89 [.agg (Ty.enc .sConfig c)] [] (zpj c) to89:=zM GC4 (H:=H89) zJ Tryz.func89 rfl (by kernel_rfl) (st89 c) (fun J l=>by cases l <;> kernel_rfl) (fun J=>by kernel_rfl)
abbrev zF5:=(List Int) × Int × Bool × Int × ze
def zFs(r:zF5):Ans:=⟨.tup [.sl (.i .u32) r.1,(zr r.2.1),(avB r.2.2.1),(zg r.2.2.2.1)],[.cells 112 [.own 1],.arr 46 (.i .u32) r.2.2.2.2.words]⟩
def H204:zaa:=⟨fun _=>false,fun _=>⟨[],[]⟩,[(.slot 0,.sl (.i .u32))],G0,zO⟩
def zkl(k:zbw)(pl:Int)(ws:List Int):Option zF5:=Tree.run0 <|
 .b (zko pl k.ends.words k.depth ws) fun r1=>
 .c (!((r1.2.2.1:Int)==0))
 (.r ([],0,false,r1.2.2.1,r1.2.2.2))
 (.c (!r1.2.1)
 (.r ([],0,false,r1.2.2.1,r1.2.2.2))
 (.b (zie pl k.ends.words k.depth r1.2.2.2.words) fun r2=>
 .r (r1.1,(u32.wrap (i64.wrap (r2.1-1))),true,r2.2.2.1,r2.2.2.2)))
theorem zIx(k:zbw)(pl:Int)(ws:List Int):Oks 204 [.agg (Ty.enc .sDuctRow k),.ref 0 0,(zg pl)] [.cells 112 [.own 1],.arr 46 (.i .u32) ws] (zkl k pl ws) zFs:=zL GC4 (H:=H204) zJ Tryz.func204 rfl (by kernel_rfl) (fun J=>by kernel_rfl)
abbrev R215:=Int × Int × Int
def zPQ(r:R215):Ans:=⟨.tup [(zr r.1),(zr r.2.1),(zg r.2.2)],[]⟩
def zni(k:zbb)(m:(Option ze))(port:Int):Option R215:=Tree.run0 <|
 .b (zgK k m port) fun r1=>
 .r ((zsg r1.2.2.1),r1.2.1,r1.2.2.2)
theorem zII(k:zbb)(m:(Option ze))(port:Int):Oks 215 [.agg (Ty.enc .sDuctLast k),.op .sMemMemory m,(zg port)] [] (zni k m port) zPQ:=zL GC4 (H:=H0) zJ Tryz.func215 rfl (by kernel_rfl) (fun J=>by kernel_rfl)
abbrev R62:=zaM × Int × zah
def to62(r:R62):Ans:=⟨.tup [.agg [(zr r.1.one),(zr r.1.two),(zr r.1.three)],(zg r.2.1)],[.cells 116 [.op .sCallsCalls r.2.2.calls,.ref 1 0,(zg r.2.2.p),(zg r.2.2.epoch),(zr r.2.2.x.regs.e0),(zr r.2.2.x.regs.e1),(zr r.2.2.x.regs.e2),(zr r.2.2.x.regs.e3),(zr r.2.2.x.regs.e4),(zr r.2.2.x.regs.e5),(zr r.2.2.x.regs.e6),(zr r.2.2.x.regs.e7),(zr r.2.2.x.regs.e8),(zr r.2.2.x.regs.e9),(zr r.2.2.x.regs.e10),(zr r.2.2.x.regs.e11),(zr r.2.2.x.regs.e12),(zr r.2.2.x.regs.e13),(zr r.2.2.x.regs.e14),(zr r.2.2.x.regs.e15),(zr r.2.2.x.pC)],.cells 112 [.own 2],.arr 46 (.i .u32) ((r.2.2.m.getD default).words)]⟩
def zsP(s:(Option zq))(p:Int)(epoch:Int)(x:zB)(ws:List Int):Option R62:=Tree.run0 <|
 .g s.isSome <|
 .b (zv1 ((s.getD default).wards) p ws) fun r1=>
 .r ((zi2 0),r1.1,(⟨s,(some r1.2),p,epoch,x⟩:zah))
theorem zNt(s:(Option zq))(p:Int)(epoch:Int)(x:zB)(ws:List Int):Oks 62 [.ref 0 0] [.cells 116 [.op .sCallsCalls s,.ref 1 0,(zg p),(zg epoch),(zr x.regs.e0),(zr x.regs.e1),(zr x.regs.e2),(zr x.regs.e3),(zr x.regs.e4),(zr x.regs.e5),(zr x.regs.e6),(zr x.regs.e7),(zr x.regs.e8),(zr x.regs.e9),(zr x.regs.e10),(zr x.regs.e11),(zr x.regs.e12),(zr x.regs.e13),(zr x.regs.e14),(zr x.regs.e15),(zr x.pC)],.cells 112 [.own 2],.arr 46 (.i .u32) ws] (zsP s p epoch x ws) to62:=zL GC4 (H:=H0) zJ Tryz.func62 rfl (by kernel_rfl) (fun J=>by kernel_rfl)
abbrev zF7:=Int × Int × ze
def zFu(r:zF7):Ans:=⟨.tup [(zg r.1),(zg r.2.1)],[.cells 112 [.own 1],.arr 46 (.i .u32) r.2.2.words]⟩
def zkn(k:zbw)(ws:List Int):Option zF7:=Tree.run0 <|
 .b (zkq k.ends.stage k.ends.words k.depth ws) fun r1=>
 .r (r1.1,r1.2.1,r1.2.2)
theorem zIz(k:zbw)(ws:List Int):Oks 206 [.agg (Ty.enc .sDuctRow k),.ref 0 0] [.cells 112 [.own 1],.arr 46 (.i .u32) ws] (zkn k ws) zFu:=zL GC4 (H:=H0) zJ Tryz.func206 rfl (by kernel_rfl) (fun J=>by kernel_rfl)
abbrev zGf:=Int × ze
def zFE(r:zGf):Ans:=⟨(zg r.1),[.cells 112 [.own 1],.arr 46 (.i .u32) r.2.words]⟩
def zeX(k:zbb)(ws:List Int):Option zGf:=Tree.run0 <|
 .b (zkt k.ends.stage k.ends.words k.ends.ports ws) fun r1=>
 .r (r1.1,r1.2)
theorem zIM(k:zbb)(ws:List Int):Oks 219 [.agg (Ty.enc .sDuctLast k),.ref 0 0] [.cells 112 [.own 1],.arr 46 (.i .u32) ws] (zeX k ws) zFE:=zL GC4 (H:=H0) zJ Tryz.func219 rfl (by kernel_rfl) (fun J=>by kernel_rfl)
abbrev zFU:=Int × ze
def zFc(r:zFU):Ans:=⟨(zg r.1),[.cells 112 [.own 1],.arr 46 (.i .u32) r.2.words]⟩
def zm4(d:(Option zH))(p:Int)(port:Int)(ws:List Int):Option zFU:=Tree.run0 <|
 .b (zld d (some (⟨ws⟩:ze))) fun r1=>
 .c (!((r1:Int)==0))
 (.r (r1,(⟨ws⟩:ze)))
 (.b (zhE d p port) fun r2=>
 .c (!r2.2)
 (.r (0,(⟨ws⟩:ze)))
 (.c r2.1.source
 (.r (0,(⟨ws⟩:ze)))
 (.o (zjn d r2.1.channel) (fun r3=>
 .b (zgF d p port r2.1.channel) fun r4=>
 .b (zib r4 r3.ends.words r3.depth ws) fun r5=>
 .r (r5.2.1,r5.2.2))
 (.b (zcj d r2.1.channel) fun _=>
 .r (0,(⟨ws⟩:ze))))))
theorem zHs(d:(Option zH))(p:Int)(port:Int)(ws:List Int):Oks 102 [.op .sDuctDucts d,.ref 0 0,(zg p),(zg port)] [.cells 112 [.own 1],.arr 46 (.i .u32) ws] (zm4 d p port ws) zFc:=zL GC4 (H:=H0) zJ Tryz.func102 rfl (by kernel_rfl) (fun J=>by kernel_rfl)
abbrev R99:=(List Int) × Bool × zah
def to99(r:R99):Ans:=⟨.tup [.sl (.i .i64) r.1,(avB r.2.1)],[.cells 116 [.op .sCallsCalls r.2.2.calls,.ref 1 0,(zg r.2.2.p),(zg r.2.2.epoch),(zr r.2.2.x.regs.e0),(zr r.2.2.x.regs.e1),(zr r.2.2.x.regs.e2),(zr r.2.2.x.regs.e3),(zr r.2.2.x.regs.e4),(zr r.2.2.x.regs.e5),(zr r.2.2.x.regs.e6),(zr r.2.2.x.regs.e7),(zr r.2.2.x.regs.e8),(zr r.2.2.x.regs.e9),(zr r.2.2.x.regs.e10),(zr r.2.2.x.regs.e11),(zr r.2.2.x.regs.e12),(zr r.2.2.x.regs.e13),(zr r.2.2.x.regs.e14),(zr r.2.2.x.regs.e15),(zr r.2.2.x.pC)],.cells 112 [.own 2],.arr 46 (.i .u32) ((r.2.2.m.getD default).words)]⟩
inductive L99 where | l0 (x0:Int) (x1:List Int)
def H99:zaa:=htt [] [(0,⟨fgt [0,1,3,10,14,15] 54 0,[(.slot 10,.own 3 (.i .i64))]⟩)] [(.slot 0,.sl (.i .i64))]
def st99(at_:Int)(n_:Int)(right:Int)(s:(Option zq))(p:Int)(epoch:Int)(x:zB)(ws:List Int):L99->Nat × St | .l0 x0 x1=>(0,⟨mkE [(0,.ref 0 0),(1,(zr at_)),(3,(zg right)),(10,.own 3),(14,(zg n_)),(15,(zg x0))] 54 0,[.cells 116 [.op .sCallsCalls s,.ref 1 0,(zg p),(zg epoch),(zr x.regs.e0),(zr x.regs.e1),(zr x.regs.e2),(zr x.regs.e3),(zr x.regs.e4),(zr x.regs.e5),(zr x.regs.e6),(zr x.regs.e7),(zr x.regs.e8),(zr x.regs.e9),(zr x.regs.e10),(zr x.regs.e11),(zr x.regs.e12),(zr x.regs.e13),(zr x.regs.e14),(zr x.regs.e15),(zr x.pC)],.cells 112 [.own 2],.arr 46 (.i .u32) ws,.arr 3 (.i .i64) x1],GL,3,[],zO⟩)
def zuS(at_:Int)(n_:Int)(right:Int)(s:(Option zq))(p:Int)(epoch:Int)(x:zB)(ws:List Int):L99->Tree L99 R99 | .l0 x0 x1 =>let y1:=(⟨ws⟩:ze);let y2:=(⟨s,(some y1),p,epoch,x⟩:zah);let y3:=(s.getD default).lay.partitions;.c (decide (x0<n_)) (.g s.isSome <| .g (zN p y3.length) <| .b (zia (some y1) ((zm y3 p.toNat).root) (i64.wrap ((i64.wrap at_)+x0)) right) fun r1=>.c (!((r1.2:Int)==0)) (.r ([],false,y2)) (.g (leB (((x1:List Int).length+([r1.1]:List Int).length)*8) 140737488355328) <| .j (.l0 (i64.wrap (x0+1)) ((x1:List Int)++[r1.1])))) (.r (x1,true,y2))
def zEO(at_:Int)(n_:Int)(right:Int)(s:(Option zq))(p:Int)(epoch:Int)(x:zB)(ws:List Int):Tree L99 R99:=.j (.l0 0 [])
def zvL(at_:Int)(n_:Int)(right:Int)(s:(Option zq))(p:Int)(epoch:Int)(x:zB)(ws:List Int):L99->Option R99:=zan (zuS at_ n_ right s p epoch x ws)
theorem zsI(at_:Int)(n_:Int)(right:Int)(s:(Option zq))(p:Int)(epoch:Int)(x:zB)(ws:List Int)(l:L99):zvL at_ n_ right s p epoch x ws l=(zuS at_ n_ right s p epoch x ws l).run (zvL at_ n_ right s p epoch x ws):=zF _ l
def zpm(at_:Int)(n_:Int)(right:Int)(s:(Option zq))(p:Int)(epoch:Int)(x:zB)(ws:List Int):Option R99:=(zEO at_ n_ right s p epoch x ws).run (zvL at_ n_ right s p epoch x ws)
theorem zN4(at_:Int)(n_:Int)(right:Int)(s:(Option zq))(p:Int)(epoch:Int)(x:zB)(ws:List Int):Oks 99 [.ref 0 0,(zr at_),(zg n_),(zg right)] [.cells 116 [.op .sCallsCalls s,.ref 1 0,(zg p),(zg epoch),(zr x.regs.e0),(zr x.regs.e1),(zr x.regs.e2),(zr x.regs.e3),(zr x.regs.e4),(zr x.regs.e5),(zr x.regs.e6),(zr x.regs.e7),(zr x.regs.e8),(zr x.regs.e9),(zr x.regs.e10),(zr x.regs.e11),(zr x.regs.e12),(zr x.regs.e13),(zr x.regs.e14),(zr x.regs.e15),(zr x.pC)],.cells 112 [.own 2],.arr 46 (.i .u32) ws] (zpm at_ n_ right s p epoch x ws) to99:=zM GC4 (H:=H99) zJ Tryz.func99 rfl (by kernel_rfl) (st99 at_ n_ right s p epoch x ws) (fun J l=>by cases l <;> kernel_rfl) (fun J=>by kernel_rfl)
abbrev zF4:=Int × Int × Int × ze
def zFr(r:zF4):Ans:=⟨.tup [(zr r.1),(zr r.2.1),(zg r.2.2.1)],[.cells 112 [.own 1],.arr 46 (.i .u32) r.2.2.2.words]⟩
def zkk(k:zbw)(pl:Int)(ws:List Int):Option zF4:=Tree.run0 <|
 .b (zie pl k.ends.words k.depth ws) fun r1=>
 .r ((u32.wrap r1.1),r1.2.1,r1.2.2.1,r1.2.2.2)
theorem zIw(k:zbw)(pl:Int)(ws:List Int):Oks 203 [.agg (Ty.enc .sDuctRow k),.ref 0 0,(zg pl)] [.cells 112 [.own 1],.arr 46 (.i .u32) ws] (zkk k pl ws) zFr:=zL GC4 (H:=H0) zJ Tryz.func203 rfl (by kernel_rfl) (fun J=>by kernel_rfl)
abbrev R69:=zaM × Int × zah
def to69(r:R69):Ans:=⟨.tup [.agg [(zr r.1.one),(zr r.1.two),(zr r.1.three)],(zg r.2.1)],[.cells 116 [.op .sCallsCalls r.2.2.calls,.ref 1 0,(zg r.2.2.p),(zg r.2.2.epoch),(zr r.2.2.x.regs.e0),(zr r.2.2.x.regs.e1),(zr r.2.2.x.regs.e2),(zr r.2.2.x.regs.e3),(zr r.2.2.x.regs.e4),(zr r.2.2.x.regs.e5),(zr r.2.2.x.regs.e6),(zr r.2.2.x.regs.e7),(zr r.2.2.x.regs.e8),(zr r.2.2.x.regs.e9),(zr r.2.2.x.regs.e10),(zr r.2.2.x.regs.e11),(zr r.2.2.x.regs.e12),(zr r.2.2.x.regs.e13),(zr r.2.2.x.regs.e14),(zr r.2.2.x.regs.e15),(zr r.2.2.x.pC)],.cells 112 [.own 2],.arr 46 (.i .u32) ((r.2.2.m.getD default).words)]⟩
def zsV(s:(Option zq))(p:Int)(epoch:Int)(x:zB)(ws:List Int):Option R69:=Tree.run0 <|
 .g s.isSome <|
 .b (zqC ((s.getD default).wards) p ws) fun r1=>
 .r ((zi2 0),r1.1,(⟨s,(some r1.2),p,epoch,x⟩:zah))
theorem zNA(s:(Option zq))(p:Int)(epoch:Int)(x:zB)(ws:List Int):Oks 69 [.ref 0 0] [.cells 116 [.op .sCallsCalls s,.ref 1 0,(zg p),(zg epoch),(zr x.regs.e0),(zr x.regs.e1),(zr x.regs.e2),(zr x.regs.e3),(zr x.regs.e4),(zr x.regs.e5),(zr x.regs.e6),(zr x.regs.e7),(zr x.regs.e8),(zr x.regs.e9),(zr x.regs.e10),(zr x.regs.e11),(zr x.regs.e12),(zr x.regs.e13),(zr x.regs.e14),(zr x.regs.e15),(zr x.pC)],.cells 112 [.own 2],.arr 46 (.i .u32) ws] (zsV s p epoch x ws) to69:=zL GC4 (H:=H0) zJ Tryz.func69 rfl (by kernel_rfl) (fun J=>by kernel_rfl)
abbrev zF6:=Bool × Int × ze
def zFt(r:zF6):Ans:=⟨.tup [(avB r.1),(zg r.2.1)],[.cells 112 [.own 1],.arr 46 (.i .u32) r.2.2.words]⟩
def zkm(k:zbw)(message:(List Int))(ws:List Int):Option zF6:=Tree.run0 <|
 .b (zkp k.ends.stage k.ends.words k.depth message ws) fun r1=>
 .r (r1.1,r1.2.1,r1.2.2)
theorem zIy(k:zbw)(message:(List Int))(ws:List Int):Oks 205 [.agg (Ty.enc .sDuctRow k),.ref 0 0,.sl (.i .u32) message] [.cells 112 [.own 1],.arr 46 (.i .u32) ws] (zkm k message ws) zFt:=zL GC4 (H:=H0) zJ Tryz.func205 rfl (by kernel_rfl) (fun J=>by kernel_rfl)
abbrev zF8:=Int × ze
def zFv(r:zF8):Ans:=⟨(zg r.1),[.cells 112 [.own 1],.arr 46 (.i .u32) r.2.words]⟩
def zeW(k:zbw)(ws:List Int):Option zF8:=Tree.run0 <|
 .b (zkr k.ends.stage k.ends.words k.depth k.ends.ports ws) fun r1=>
 .r (r1.1,r1.2)
theorem zIA(k:zbw)(ws:List Int):Oks 207 [.agg (Ty.enc .sDuctRow k),.ref 0 0] [.cells 112 [.own 1],.arr 46 (.i .u32) ws] (zeW k ws) zFv:=zL GC4 (H:=H0) zJ Tryz.func207 rfl (by kernel_rfl) (fun J=>by kernel_rfl)
abbrev R126:=zx
def zPb(r:R126):Ans:=⟨.agg [(zg r.e),(zg r.where_.first),(zg r.where_.second)],[]⟩
def zqJ(a:za):Option R126:=Tree.run0 <|
 .b (zkg a) fun r1=>
 .r (zag r1 423 nowhere)
theorem zAZ(a:za):Oks 126 [.op .sConfig (some a)] [] (zqJ a) zPb:=zL GC4 (H:=H0) zJ Tryz.func126 rfl (by kernel_rfl) (fun J=>by kernel_rfl)
def g62(args:List AV)(hp:List Blk):Option Rsp:=
 match args,hp with
 | [.ref 0 0],[.cells 116 [.op .sCallsCalls y0,.ref 1 0,.v (.int .i64 y1),.v (.int .i64 y2),.v (.int .u32 y3),.v (.int .u32 y4),.v (.int .u32 y5),.v (.int .u32 y6),.v (.int .u32 y7),.v (.int .u32 y8),.v (.int .u32 y9),.v (.int .u32 y10),.v (.int .u32 y11),.v (.int .u32 y12),.v (.int .u32 y13),.v (.int .u32 y14),.v (.int .u32 y15),.v (.int .u32 y16),.v (.int .u32 y17),.v (.int .u32 y18),.v (.int .u32 y19)],.cells 112 [.own 2],.arr 46 (.i .u32) y20]=>some ⟨R62,(zsP y0 y1 y2 (⟨(⟨y3,y4,y5,y6,y7,y8,y9,y10,y11,y12,y13,y14,y15,y16,y17,y18⟩:zZ),y19⟩:zB) y20),to62,default⟩
 | _,_=>none
def k62:Fk 62:=⟨g62,fun args hp y h x hx=>by
 unfold g62 at h
 split at h
 . cases h;exact(zNt _ _ _ _ _).ats (.cons (fun _ _ _ _ h=>h) .nil) hx
 . cases h⟩
def g69(args:List AV)(hp:List Blk):Option Rsp:=
 match args,hp with
 | [.ref 0 0],[.cells 116 [.op .sCallsCalls y0,.ref 1 0,.v (.int .i64 y1),.v (.int .i64 y2),.v (.int .u32 y3),.v (.int .u32 y4),.v (.int .u32 y5),.v (.int .u32 y6),.v (.int .u32 y7),.v (.int .u32 y8),.v (.int .u32 y9),.v (.int .u32 y10),.v (.int .u32 y11),.v (.int .u32 y12),.v (.int .u32 y13),.v (.int .u32 y14),.v (.int .u32 y15),.v (.int .u32 y16),.v (.int .u32 y17),.v (.int .u32 y18),.v (.int .u32 y19)],.cells 112 [.own 2],.arr 46 (.i .u32) y20]=>some ⟨R69,(zsV y0 y1 y2 (⟨(⟨y3,y4,y5,y6,y7,y8,y9,y10,y11,y12,y13,y14,y15,y16,y17,y18⟩:zZ),y19⟩:zB) y20),to69,default⟩
 | _,_=>none
def k69:Fk 69:=⟨g69,fun args hp y h x hx=>by
 unfold g69 at h
 split at h
 . cases h;exact(zNA _ _ _ _ _).ats (.cons (fun _ _ _ _ h=>h) .nil) hx
 . cases h⟩
def k89:Fk 89:=aF (aS .sConfig fun a0=>aE (zNU a0))
def g99(args:List AV)(hp:List Blk):Option Rsp:=
 match args,hp with
 | [.ref 0 0,a1,a2,a3],[.cells 116 [.op .sCallsCalls y0,.ref 1 0,.v (.int .i64 y1),.v (.int .i64 y2),.v (.int .u32 y3),.v (.int .u32 y4),.v (.int .u32 y5),.v (.int .u32 y6),.v (.int .u32 y7),.v (.int .u32 y8),.v (.int .u32 y9),.v (.int .u32 y10),.v (.int .u32 y11),.v (.int .u32 y12),.v (.int .u32 y13),.v (.int .u32 y14),.v (.int .u32 y15),.v (.int .u32 y16),.v (.int .u32 y17),.v (.int .u32 y18),.v (.int .u32 y19)],.cells 112 [.own 2],.arr 46 (.i .u32) y20]=>(rdL (.i .u32) a1).bind fun b1=>(rdL (.i .i64) a2).bind fun b2=>(rdL (.i .i64) a3).bind fun b3=>some ⟨R99,(zpm b1 b2 b3 y0 y1 y2 (⟨(⟨y3,y4,y5,y6,y7,y8,y9,y10,y11,y12,y13,y14,y15,y16,y17,y18⟩:zZ),y19⟩:zB) y20),to99,default⟩
 | _,_=>none
def k99:Fk 99:=⟨g99,fun args hp y h x hx=>by
 unfold g99 at h
 split at h
 . simp only[Option.bind_eq_some_iff]at h
   obtain ⟨b1,h1,b2,h2,b3,h3,h⟩:=h
   cases h;exact(zN4 b1 b2 b3 _ _ _ _ _).ats (.cons (fun _ _ _ _ h=>h) (.cons (z8 h1) (.cons (z8 h2) (.cons (z8 h3) .nil)))) hx
 . cases h⟩
def g102(args:List AV)(hp:List Blk):Option Rsp:=
 match args,hp with
 | [a0,.ref 0 0,a2,a3],[.cells 112 [.own 1],.arr 46 (.i .u32) y0]=>(rdL (.p .sDuctDucts) a0).bind fun b0=>(rdL (.i .i64) a2).bind fun b2=>(rdL (.i .i64) a3).bind fun b3=>some ⟨zFU,(zm4 b0 b2 b3 y0),zFc,default⟩
 | _,_=>none
def k102:Fk 102:=⟨g102,fun args hp y h x hx=>by
 unfold g102 at h
 split at h
 . simp only[Option.bind_eq_some_iff]at h
   obtain ⟨b0,h0,b2,h2,b3,h3,h⟩:=h
   cases h;exact(zHs b0 b2 b3 _).ats (.cons (z8 h0) (.cons (fun _ _ _ _ h=>h) (.cons (z8 h2) (.cons (z8 h3) .nil)))) hx
 . cases h⟩
def k126:Fk 126:=aF (aP .sConfig fun a0=>aE (zAZ a0))
def g203(args:List AV)(hp:List Blk):Option Rsp:=
 match args,hp with
 | [a0,.ref 0 0,a2],[.cells 112 [.own 1],.arr 46 (.i .u32) y0]=>(rdS .sDuctRow a0).bind fun b0=>(rdL (.i .i64) a2).bind fun b2=>some ⟨zF4,(zkk b0 b2 y0),zFr,default⟩
 | _,_=>none
def k203:Fk 203:=⟨g203,fun args hp y h x hx=>by
 unfold g203 at h
 split at h
 . simp only[Option.bind_eq_some_iff]at h
   obtain ⟨b0,h0,b2,h2,h⟩:=h
   cases h;exact(zIw b0 b2 _).ats (.cons (zct h0) (.cons (fun _ _ _ _ h=>h) (.cons (z8 h2) .nil))) hx
 . cases h⟩
def g204(args:List AV)(hp:List Blk):Option Rsp:=
 match args,hp with
 | [a0,.ref 0 0,a2],[.cells 112 [.own 1],.arr 46 (.i .u32) y0]=>(rdS .sDuctRow a0).bind fun b0=>(rdL (.i .i64) a2).bind fun b2=>some ⟨zF5,(zkl b0 b2 y0),zFs,default⟩
 | _,_=>none
def k204:Fk 204:=⟨g204,fun args hp y h x hx=>by
 unfold g204 at h
 split at h
 . simp only[Option.bind_eq_some_iff]at h
   obtain ⟨b0,h0,b2,h2,h⟩:=h
   cases h;exact(zIx b0 b2 _).ats (.cons (zct h0) (.cons (fun _ _ _ _ h=>h) (.cons (z8 h2) .nil))) hx
 . cases h⟩
def g205(args:List AV)(hp:List Blk):Option Rsp:=
 match args,hp with
 | [a0,.ref 0 0,a2],[.cells 112 [.own 1],.arr 46 (.i .u32) y0]=>(rdS .sDuctRow a0).bind fun b0=>(rdL (.sl (.i .u32)) a2).bind fun b2=>some ⟨zF6,(zkm b0 b2 y0),zFt,default⟩
 | _,_=>none
def k205:Fk 205:=⟨g205,fun args hp y h x hx=>by
 unfold g205 at h
 split at h
 . simp only[Option.bind_eq_some_iff]at h
   obtain ⟨b0,h0,b2,h2,h⟩:=h
   cases h;exact(zIy b0 b2 _).ats (.cons (zct h0) (.cons (fun _ _ _ _ h=>h) (.cons (z8 h2) .nil))) hx
 . cases h⟩
def g206(args:List AV)(hp:List Blk):Option Rsp:=
 match args,hp with
 | [a0,.ref 0 0],[.cells 112 [.own 1],.arr 46 (.i .u32) y0]=>(rdS .sDuctRow a0).bind fun b0=>some ⟨zF7,(zkn b0 y0),zFu,default⟩
 | _,_=>none
def k206:Fk 206:=⟨g206,fun args hp y h x hx=>by
 unfold g206 at h
 split at h
 . simp only[Option.bind_eq_some_iff]at h
   obtain ⟨b0,h0,h⟩:=h
   cases h;exact(zIz b0 _).ats (.cons (zct h0) (.cons (fun _ _ _ _ h=>h) .nil)) hx
 . cases h⟩
def g207(args:List AV)(hp:List Blk):Option Rsp:=
 match args,hp with
 | [a0,.ref 0 0],[.cells 112 [.own 1],.arr 46 (.i .u32) y0]=>(rdS .sDuctRow a0).bind fun b0=>some ⟨zF8,(zeW b0 y0),zFv,default⟩
 | _,_=>none
def k207:Fk 207:=⟨g207,fun args hp y h x hx=>by
 unfold g207 at h
 split at h
 . simp only[Option.bind_eq_some_iff]at h
   obtain ⟨b0,h0,h⟩:=h
   cases h;exact(zIA b0 _).ats (.cons (zct h0) (.cons (fun _ _ _ _ h=>h) .nil)) hx
 . cases h⟩
def k215:Fk 215:=aF (aS .sDuctLast fun a0=>aL (.p .sMemMemory) fun a1=>aL (.i .i64) fun a2=>aE (zII a0 a1 a2))
def g219(args:List AV)(hp:List Blk):Option Rsp:=
 match args,hp with
 | [a0,.ref 0 0],[.cells 112 [.own 1],.arr 46 (.i .u32) y0]=>(rdS .sDuctLast a0).bind fun b0=>some ⟨zGf,(zeX b0 y0),zFE,default⟩
 | _,_=>none
def k219:Fk 219:=⟨g219,fun args hp y h x hx=>by
 unfold g219 at h
 split at h
 . simp only[Option.bind_eq_some_iff]at h
   obtain ⟨b0,h0,h⟩:=h
   cases h;exact(zIM b0 _).ats (.cons (zct h0) (.cons (fun _ _ _ _ h=>h) .nil)) hx
 . cases h⟩
def ask(x:Clo):Option zx:=match x with
 | .c113 c0=>some (zE4 c0)
 | .c116 c0=>some (zE5 c0)
 | .c117 c0=>some (zE6 c0)
 | .c118 c0=>some (zE7 c0)
 | .c119 c0=>some (zE8 c0)
 | .c120 c0 c1=>zqD c0 c1
 | .c122 c0 c1=>zqF c0 c1
 | .c124 c0 c1=>zqH c0 c1
 | .c126 c0=>zqJ c0
 | _=>none
def zG0(x:Clo)(args:List AV)(hp:List Blk):Option Rsp:=
 match hp,args with
 | [],[]=>some ⟨zx,ask x,fun r=>⟨.agg [(zg r.e),(zg r.where_.first),(zg r.where_.second)],[]⟩,default⟩
 | _,_=>none
theorem zC6{z:Clo}{args:List AV}{hp:List Blk}{y:Rsp}(h:zG0 z args hp=some y)(x:y.R)(hx:y.o=some x):OkC Pr GL (.c z) args hp (y.to x):=by
 unfold zG0 at h
 split at h
 . cases h
   cases z with
   | none=>cases hx
   | c113 c0=>exact⟨113,_,by kernel_rfl,(zAR c0).ats (Ats.refl _) hx⟩
   | c116 c0=>exact⟨116,_,by kernel_rfl,(zAS c0).ats (Ats.refl _) hx⟩
   | c117 c0=>exact⟨117,_,by kernel_rfl,(zAT c0).ats (Ats.refl _) hx⟩
   | c118 c0=>exact⟨118,_,by kernel_rfl,(zAU c0).ats (Ats.refl _) hx⟩
   | c119 c0=>exact⟨119,_,by kernel_rfl,(zAV c0).ats (Ats.refl _) hx⟩
   | c120 c0 c1=>exact⟨120,_,by kernel_rfl,(zAW c0 c1).ats (Ats.refl _) hx⟩
   | c122 c0 c1=>exact⟨122,_,by kernel_rfl,(zAX c0 c1).ats (Ats.refl _) hx⟩
   | c124 c0 c1=>exact⟨124,_,by kernel_rfl,(zAY c0 c1).ats (Ats.refl _) hx⟩
   | c126 c0=>exact⟨126,_,by kernel_rfl,(zAZ c0).ats (Ats.refl _) hx⟩
 . cases h
def clo:Ck where
 g x args hp:=match args with
  | []=>zG0 x [] hp
  | _=>none
 ok:=fun h x hx=>by
  split at h
  . exact zC6 h x hx
  . cases h
def GC5:GK:=gamC clo (zlj [⟨62,k62⟩,⟨69,k69⟩,⟨89,k89⟩,⟨99,k99⟩,⟨102,k102⟩,⟨126,k126⟩,⟨203,k203⟩,⟨204,k204⟩,⟨205,k205⟩,⟨206,k206⟩,⟨207,k207⟩,⟨215,k215⟩,⟨219,k219⟩] GC4)
abbrev R50:=Int × zaY
def to50(r:R50):Ans:=⟨.tup [(zg r.1),.agg [(zg r.2.first),(zg r.2.second)]],[]⟩
inductive L50 where | l0 (x0:Int) | l4 (x0:Int) | l8 (x0:Int)
def H50:zaa:=htt [] [(0,⟨fgt [1,3,5] 73 0,[]⟩),(4,⟨fgt [1,3,8] 73 0,[]⟩),(8,⟨fgt [1,3,10] 73 0,[]⟩)] []
def st50(c:za):L50->Nat × St | .l0 x0=>(0,⟨mkE [(1,.ref 0 0),(3,.ref 1 0),(5,(zg x0))] 73 0,[.cells 26 (Ty.enc .sConfig c),.cells 144 [(zg 0),(zg 0)]],GL,0,[],zO⟩) | .l4 x0=>(4,⟨mkE [(1,.ref 0 0),(3,.ref 1 0),(8,(zg x0))] 73 0,[.cells 26 (Ty.enc .sConfig c),.cells 144 [(zg 0),(zg 0)]],GL,0,[],zO⟩) | .l8 x0=>(8,⟨mkE [(1,.ref 0 0),(3,.ref 1 0),(10,(zg x0))] 73 0,[.cells 26 (Ty.enc .sConfig c),.cells 144 [(zg 0),(zg 0)]],GL,0,[],zO⟩)
def zkD(c:za):L50->Tree L50 R50 | .l0 x0=>.c (decide (x0<c.partitions.length)) (.b (zvV c x0) fun r1=>.c (!((r1.1:Int)==0)) (.r (r1.1,r1.2)) (.j (.l0 (i64.wrap (x0+1))))) (.j (.l4 0)) | .l4 x0=>.c (decide (x0<c.channels.length)) (.b (zvW c x0) fun r2=>.c (!((r2:Int)==0)) (.r (r2,(zlp x0))) (.j (.l4 (i64.wrap (x0+1))))) (.j (.l8 0)) | .l8 x0=>.c (decide (x0<c.cores.length)) (.b (zvX c x0) fun r3=>.c (!((r3.1:Int)==0)) (.r (r3.1,r3.2)) (.j (.l8 (i64.wrap (x0+1))))) (.b (zpj c) fun r4=>.c (!r4) (.r (423,zJi)) (.r (0,(⟨0,0⟩:zaY))))
def zEu(c:za):Tree L50 R50:=.c (!(((zxR c):Int)==0)) (.r ((zxR c),zJi)) (.j (.l0 0))
def zja(c:za):L50->Option R50:=zan (zkD c)
theorem zfh(c:za)(l:L50):zja c l=(zkD c l).run (zja c):=zF _ l
def zfp(c:za):Option R50:=(zEu c).run (zja c)
theorem zNh(c:za):Oks 50 [.agg (Ty.enc .sConfig c)] [] (zfp c) to50:=zM GC5 (H:=H50) zJ Tryz.func50 rfl (by kernel_rfl) (st50 c) (fun J l=>by cases l <;> kernel_rfl) (fun J=>by kernel_rfl)
abbrev zFV:=Int × Int × Int × Int × ze
def zFe(r:zFV):Ans:=⟨.tup [(zg r.1),(zr r.2.1),(zr r.2.2.1),(zg r.2.2.2.1)],[.cells 112 [.own 1],.arr 46 (.i .u32) r.2.2.2.2.words]⟩
def zm5(d:(Option zH))(p:Int)(port:Int)(ws:List Int):Option zFV:=Tree.run0 <|
 .b (zld d (some (⟨ws⟩:ze))) fun r1=>
 .c (!((r1:Int)==0))
 (.r (0,0,0,r1,(⟨ws⟩:ze)))
 (.b (zhE d p port) fun r2=>
 .c (!r2.2)
 (.r (1,0,0,0,(⟨ws⟩:ze)))
 (.o (zjn d r2.1.channel) (fun r3=>
 .c r2.1.source
 (.b (zkn r3 ws) fun r4=>
 .r (0,(u32.wrap r4.1),0,r4.2.1,r4.2.2))
 (.b (zgF d p port r2.1.channel) fun r5=>
 .b (zkk r3 r5 ws) fun r6=>
 .c (!((r6.2.2.1:Int)==0))
 (.r (0,0,0,r6.2.2.1,r6.2.2.2))
 (.r (0,r6.1,r6.2.1,0,r6.2.2.2))))
 (.b (zcj d r2.1.channel) fun r7=>
 .c r2.1.source
 (.b (znj r7 (some (⟨ws⟩:ze))) fun r8=>
 .r (0,(u32.wrap r8.1),0,r8.2,(⟨ws⟩:ze)))
 (.b (zgF d p port r2.1.channel) fun r9=>
 .b (zni r7 (some (⟨ws⟩:ze)) r9) fun r10=>
 .c (!((r10.2.2:Int)==0))
 (.r (0,0,0,r10.2.2,(⟨ws⟩:ze)))
 (.r (0,r10.1,r10.2.1,0,(⟨ws⟩:ze)))))))
theorem zHu(d:(Option zH))(p:Int)(port:Int)(ws:List Int):Oks 104 [.op .sDuctDucts d,.ref 0 0,(zg p),(zg port)] [.cells 112 [.own 1],.arr 46 (.i .u32) ws] (zm5 d p port ws) zFe:=zL GC5 (H:=H0) zJ Tryz.func104 rfl (by kernel_rfl) (fun J=>by kernel_rfl)
abbrev zCC:=Int × (List Int) × Int × Int × ze
def zFb(r:zCC):Ans:=⟨.tup [(zg r.1),.sl (.i .u32) r.2.1,(zr r.2.2.1),(zg r.2.2.2.1)],[.cells 112 [.own 1],.arr 46 (.i .u32) r.2.2.2.2.words]⟩
def H101:zaa:=⟨fun _=>false,fun _=>⟨[],[]⟩,[(.slot 1,.sl (.i .u32))],G0,zO⟩
def zm3(d:(Option zH))(p:Int)(port:Int)(ws:List Int):Option zCC:=Tree.run0 <|
 .b (zld d (some (⟨ws⟩:ze))) fun r1=>
 .c (!((r1:Int)==0))
 (.r (0,[],0,r1,(⟨ws⟩:ze)))
 (.b (zhE d p port) fun r2=>
 .c (!r2.2)
 (.r (1,[],0,0,(⟨ws⟩:ze)))
 (.c r2.1.source
 (.r (2,[],0,0,(⟨ws⟩:ze)))
 (.o (zjn d r2.1.channel) (fun r3=>
 .b (zgF d p port r2.1.channel) fun r4=>
 .b (zkl r3 r4 ws) fun r6=>
 .c (!((r6.2.2.2.1:Int)==0))
 (.r (0,[],0,r6.2.2.2.1,r6.2.2.2.2))
 (.c (!r6.2.2.1)
 (.r (6,[],0,0,r6.2.2.2.2))
 (.r (0,r6.1,r6.2.1,0,r6.2.2.2.2))))
 (.b (zcj d r2.1.channel) fun r7=>
 .b (zgF d p port r2.1.channel) fun r8=>
 .b (zgK r7 (some (⟨ws⟩:ze)) r8) fun r9=>
 .c (!((r9.2.2.2:Int)==0))
 (.r (0,[],0,r9.2.2.2,(⟨ws⟩:ze)))
 (.c (!r9.2.2.1)
 (.r (6,[],0,0,(⟨ws⟩:ze)))
 (.r (0,r9.1,r9.2.1,0,(⟨ws⟩:ze))))))))
theorem zHr(d:(Option zH))(p:Int)(port:Int)(ws:List Int):Oks 101 [.op .sDuctDucts d,.ref 0 0,(zg p),(zg port)] [.cells 112 [.own 1],.arr 46 (.i .u32) ws] (zm3 d p port ws) zFb:=zL GC5 (H:=H101) zJ Tryz.func101 rfl (by kernel_rfl) (fun J=>by kernel_rfl)
abbrev R75:=(List Clo)
def to75(r:R75):Ans:=⟨.own 0,[.arr 192 .f r]⟩
inductive L75 where | l0 (x0:Int) (x1:List Clo) | l4 (x0:Int) (x1:List Clo) | l8 (x0:Int) (x1:List Clo)
def H75:zaa:=htt [] [(0,⟨fgt [1,3,15,16] 50 0,[]⟩),(4,⟨fgt [1,3,26,27] 50 0,[]⟩),(8,⟨fgt [1,3,37,38] 50 0,[]⟩)] []
def st75(c:za):L75->Nat × St | .l0 x0 x1=>(0,⟨mkE [(1,.ref 0 0),(3,.own 1),(15,(zg c.partitions.length)),(16,(zg x0))] 50 0,[.rob .sConfig c,.arr 192 .f x1],GL,0,[],zO⟩) | .l4 x0 x1=>(4,⟨mkE [(1,.ref 0 0),(3,.own 1),(26,(zg c.channels.length)),(27,(zg x0))] 50 0,[.rob .sConfig c,.arr 192 .f x1],GL,0,[],zO⟩) | .l8 x0 x1=>(8,⟨mkE [(1,.ref 0 0),(3,.own 1),(37,(zg c.cores.length)),(38,(zg x0))] 50 0,[.rob .sConfig c,.arr 192 .f x1],GL,0,[],zO⟩)
def zkG(c:za):L75->Tree L75 R75 | .l0 x0 x1=>.c (decide (x0<c.partitions.length)) (.g (leB (((x1:List Clo).length+([(Clo.c120 c x0)]:List Clo).length)*8) 140737488355328) <| .j (.l0 (i64.wrap (x0+1)) ((x1:List Clo)++[(Clo.c120 c x0)]))) (.j (.l4 0 x1)) | .l4 x0 x1=>.c (decide (x0<c.channels.length)) (.g (leB (((x1:List Clo).length+([(Clo.c122 c x0)]:List Clo).length)*8) 140737488355328) <| .j (.l4 (i64.wrap (x0+1)) ((x1:List Clo)++[(Clo.c122 c x0)]))) (.j (.l8 0 x1)) | .l8 x0 x1 =>let y1:=(x1:List Clo);.c (decide (x0<c.cores.length)) (.g (leB ((y1.length+([(Clo.c124 c x0)]:List Clo).length)*8) 140737488355328) <| .j (.l8 (i64.wrap (x0+1)) (y1++[(Clo.c124 c x0)]))) (.g (leB ((y1.length+([(Clo.c126 c)]:List Clo).length)*8) 140737488355328) <| .r (y1++[(Clo.c126 c)]))
def zLS(c:za):Tree L75 R75:=.j (.l0 0 [(Clo.c113 c),(Clo.c116 c),(Clo.c117 c),(Clo.c118 c),(Clo.c119 c)])
def zm1(c:za):L75->Option R75:=zan (zkG c)
theorem zfk(c:za)(l:L75):zm1 c l=(zkG c l).run (zm1 c):=zF _ l
def zBI(c:za):Option R75:=(zLS c).run (zm1 c)
theorem zNG(c:za):Oks 75 [.agg (Ty.enc .sConfig c)] [] (zBI c) to75:=zM GC5 (H:=H75) zJ Tryz.func75 rfl (by kernel_rfl) (st75 c) (fun J l=>by cases l <;> kernel_rfl) (fun J=>by kernel_rfl)
abbrev zFT:=Int × Int × ze
def zFa(r:zFT):Ans:=⟨.tup [(zg r.1),(zg r.2.1)],[.cells 112 [.own 1],.arr 46 (.i .u32) r.2.2.words]⟩
def zm2(d:(Option zH))(p:Int)(port:Int)(message:(List Int))(ws:List Int):Option zFT:=Tree.run0 <|
 .b (zld d (some (⟨ws⟩:ze))) fun r1=>
 .c (!((r1:Int)==0))
 (.r (0,r1,(⟨ws⟩:ze)))
 (.b (zpl d p port) fun r2=>
 .c (!((r2.2:Int)==0))
 (.r (r2.2,0,(⟨ws⟩:ze)))
 (.c ((message.length:Int)==0)
 (.r (3,0,(⟨ws⟩:ze)))
 (.c (decide ((message.length:Int)>r2.1))
 (.r (3,0,(⟨ws⟩:ze)))
 (.b (zhE d p port) fun r3=>
 .o (zjn d r3.1.channel) (fun r4=>
 .b (zkm r4 message ws) fun r5=>
 .c ((r5.2.1:Int)==0)
 (.c (!r5.1)
 (.r (5,0,r5.2.2))
 (.r (0,r5.2.1,r5.2.2)))
 (.r (0,r5.2.1,r5.2.2)))
 (.b (zcj d r3.1.channel) fun r6=>
 .b (zks r6 message ws) fun r7=>
 .c ((r7.2.1:Int)==0)
 (.c (!r7.1)
 (.r (5,0,r7.2.2))
 (.r (0,r7.2.1,r7.2.2)))
 (.r (0,r7.2.1,r7.2.2)))))))
theorem zHq(d:(Option zH))(p:Int)(port:Int)(message:(List Int))(ws:List Int):Oks 100 [.op .sDuctDucts d,.ref 0 0,(zg p),(zg port),.sl (.i .u32) message] [.cells 112 [.own 1],.arr 46 (.i .u32) ws] (zm2 d p port message ws) zFa:=zL GC5 (H:=H0) zJ Tryz.func100 rfl (by kernel_rfl) (fun J=>by kernel_rfl)
abbrev R34:=Int × ze
def to34(r:R34):Ans:=⟨(zg r.1),[.cells 112 [.own 1],.arr 46 (.i .u32) r.2.words]⟩
inductive L34 where | l0 (x0:Int) (x1:List Int) | l4 (x0:Int) (x1:List Int)
def H34:zaa:=htt [] [(0,⟨fgt [0,1,6,23,24] 51 0,[]⟩),(4,⟨fgt [0,1,41,42] 51 0,[]⟩)] []
def st34(d:(Option zH))(ws:List Int):L34->Nat × St | .l0 x0 x1=>(0,⟨mkE [(0,.op .sDuctDucts d),(1,.ref 0 0),(6,.ref 2 0),(23,(zg (((d.getD default).c.channels).length))),(24,(zg x0))] 51 0,[.cells 112 [.own 1],.arr 46 (.i .u32) ws,.cells 112 [.own 3],.arr 46 (.i .u32) x1],GL,2,[],zO⟩) | .l4 x0 x1=>(4,⟨mkE [(0,.op .sDuctDucts d),(1,.ref 0 0),(41,(zg (((d.getD default).c.channels).length))),(42,(zg x0))] 51 0,[.cells 112 [.own 1],.arr 46 (.i .u32) x1],GL,2,[],zO⟩)
def zkB(d:(Option zH))(ws:List Int):L34->Tree L34 R34 | .l0 x0 x1 =>let y1:=i64.wrap (x0+1);let y2:=(⟨ws⟩:ze);.c (decide (x0<((d.getD default).c.channels).length)) (.o (zjn d x0) (fun r3=>.b (zeW r3 x1) fun r4=>.c (!((r4.1:Int)==0)) (.r (r4.1,y2)) (.j (.l0 y1 r4.2.words))) (.b (zcj d x0) fun r5=>.b (zeX r5 x1) fun r6=>.c (!((r6.1:Int)==0)) (.r (r6.1,y2)) (.j (.l0 y1 r6.2.words)))) (.g d.isSome <| .j (.l4 0 ws)) | .l4 x0 x1 =>let y1:=i64.wrap (x0+1);.c (decide (x0<((d.getD default).c.channels).length)) (.o (zjn d x0) (fun r7=>.b (zeW r7 x1) fun r8=>.j (.l4 y1 r8.2.words)) (.b (zcj d x0) fun r9=>.b (zeX r9 x1) fun r10=>.j (.l4 y1 r10.2.words))) (.r (0,(⟨x1⟩:ze)))
def zEn(d:(Option zH))(ws:List Int):Tree L34 R34:=.b (zld d (some (⟨ws⟩:ze))) fun r1=>.c (!((r1:Int)==0)) (.r (r1,(⟨ws⟩:ze))) (.b (zvR (some (⟨ws⟩:ze))) fun r2=>.g d.isSome <| .j (.l0 0 r2.words))
def zmX(d:(Option zH))(ws:List Int):L34->Option R34:=zan (zkB d ws)
theorem zi8(d:(Option zH))(ws:List Int)(l:L34):zmX d ws l=(zkB d ws l).run (zmX d ws):=zF _ l
def zsM(d:(Option zH))(ws:List Int):Option R34:=(zEn d ws).run (zmX d ws)
theorem zM4(d:(Option zH))(ws:List Int):Oks 34 [.op .sDuctDucts d,.ref 0 0] [.cells 112 [.own 1],.arr 46 (.i .u32) ws] (zsM d ws) to34:=zM GC5 (H:=H34) zJ Tryz.func34 rfl (by kernel_rfl) (st34 d ws) (fun J l=>by cases l <;> kernel_rfl) (fun J=>by kernel_rfl)
def g34(args:List AV)(hp:List Blk):Option Rsp:=
 match args,hp with
 | [a0,.ref 0 0],[.cells 112 [.own 1],.arr 46 (.i .u32) y0]=>(rdL (.p .sDuctDucts) a0).bind fun b0=>some ⟨R34,(zsM b0 y0),to34,default⟩
 | _,_=>none
def k34:Fk 34:=⟨g34,fun args hp y h x hx=>by
 unfold g34 at h
 split at h
 . simp only[Option.bind_eq_some_iff]at h
   obtain ⟨b0,h0,h⟩:=h
   cases h;exact(zM4 b0 _).ats (.cons (z8 h0) (.cons (fun _ _ _ _ h=>h) .nil)) hx
 . cases h⟩
def k50:Fk 50:=aF (aS .sConfig fun a0=>aE (zNh a0))
def k75:Fk 75:=aF (aS .sConfig fun a0=>aE (zNG a0))
def g100(args:List AV)(hp:List Blk):Option Rsp:=
 match args,hp with
 | [a0,.ref 0 0,a2,a3,a4],[.cells 112 [.own 1],.arr 46 (.i .u32) y0]=>(rdL (.p .sDuctDucts) a0).bind fun b0=>(rdL (.i .i64) a2).bind fun b2=>(rdL (.i .i64) a3).bind fun b3=>(rdL (.sl (.i .u32)) a4).bind fun b4=>some ⟨zFT,(zm2 b0 b2 b3 b4 y0),zFa,default⟩
 | _,_=>none
def k100:Fk 100:=⟨g100,fun args hp y h x hx=>by
 unfold g100 at h
 split at h
 . simp only[Option.bind_eq_some_iff]at h
   obtain ⟨b0,h0,b2,h2,b3,h3,b4,h4,h⟩:=h
   cases h;exact(zHq b0 b2 b3 b4 _).ats (.cons (z8 h0) (.cons (fun _ _ _ _ h=>h) (.cons (z8 h2) (.cons (z8 h3) (.cons (z8 h4) .nil))))) hx
 . cases h⟩
def g101(args:List AV)(hp:List Blk):Option Rsp:=
 match args,hp with
 | [a0,.ref 0 0,a2,a3],[.cells 112 [.own 1],.arr 46 (.i .u32) y0]=>(rdL (.p .sDuctDucts) a0).bind fun b0=>(rdL (.i .i64) a2).bind fun b2=>(rdL (.i .i64) a3).bind fun b3=>some ⟨zCC,(zm3 b0 b2 b3 y0),zFb,default⟩
 | _,_=>none
def k101:Fk 101:=⟨g101,fun args hp y h x hx=>by
 unfold g101 at h
 split at h
 . simp only[Option.bind_eq_some_iff]at h
   obtain ⟨b0,h0,b2,h2,b3,h3,h⟩:=h
   cases h;exact(zHr b0 b2 b3 _).ats (.cons (z8 h0) (.cons (fun _ _ _ _ h=>h) (.cons (z8 h2) (.cons (z8 h3) .nil)))) hx
 . cases h⟩
def g104(args:List AV)(hp:List Blk):Option Rsp:=
 match args,hp with
 | [a0,.ref 0 0,a2,a3],[.cells 112 [.own 1],.arr 46 (.i .u32) y0]=>(rdL (.p .sDuctDucts) a0).bind fun b0=>(rdL (.i .i64) a2).bind fun b2=>(rdL (.i .i64) a3).bind fun b3=>some ⟨zFV,(zm5 b0 b2 b3 y0),zFe,default⟩
 | _,_=>none
def k104:Fk 104:=⟨g104,fun args hp y h x hx=>by
 unfold g104 at h
 split at h
 . simp only[Option.bind_eq_some_iff]at h
   obtain ⟨b0,h0,b2,h2,b3,h3,h⟩:=h
   cases h;exact(zHu b0 b2 b3 _).ats (.cons (z8 h0) (.cons (fun _ _ _ _ h=>h) (.cons (z8 h2) (.cons (z8 h3) .nil)))) hx
 . cases h⟩
def GC6:GK:=zlj [⟨34,k34⟩,⟨50,k50⟩,⟨75,k75⟩,⟨100,k100⟩,⟨101,k101⟩,⟨104,k104⟩] GC5
abbrev R63:=zaM × Int × zah
def to63(r:R63):Ans:=⟨.tup [.agg [(zr r.1.one),(zr r.1.two),(zr r.1.three)],(zg r.2.1)],[.cells 116 [.op .sCallsCalls r.2.2.calls,.ref 1 0,(zg r.2.2.p),(zg r.2.2.epoch),(zr r.2.2.x.regs.e0),(zr r.2.2.x.regs.e1),(zr r.2.2.x.regs.e2),(zr r.2.2.x.regs.e3),(zr r.2.2.x.regs.e4),(zr r.2.2.x.regs.e5),(zr r.2.2.x.regs.e6),(zr r.2.2.x.regs.e7),(zr r.2.2.x.regs.e8),(zr r.2.2.x.regs.e9),(zr r.2.2.x.regs.e10),(zr r.2.2.x.regs.e11),(zr r.2.2.x.regs.e12),(zr r.2.2.x.regs.e13),(zr r.2.2.x.regs.e14),(zr r.2.2.x.regs.e15),(zr r.2.2.x.pC)],.cells 112 [.own 2],.arr 46 (.i .u32) ((r.2.2.m.getD default).words)]⟩
inductive L63 where | l2 (v0:R99) (x0:Int) (x1:List Int)
def H63:zaa:=htt [] [(2,⟨fgt [0,2,4,10,75,76,77] 119 0,[(.slot 10,.own 46 (.i .u32))]⟩)] []
def st63(s:(Option zq))(p:Int)(epoch:Int)(x:zB)(ws:List Int):L63->Nat × St | .l2 v0 x0 x1=>(2,⟨mkE [(0,.ref 0 0),(2,.ref 3 0),(4,(zg (i64.wrap x.regs.e1))),(10,.own 4),(75,.sl (.i .i64) v0.1),(76,(zg v0.1.length)),(77,(zg x0))] 119 0,[.cells 116 [.op .sCallsCalls v0.2.2.calls,.ref 1 0,(zg v0.2.2.p),(zg v0.2.2.epoch),(zr v0.2.2.x.regs.e0),(zr v0.2.2.x.regs.e1),(zr v0.2.2.x.regs.e2),(zr v0.2.2.x.regs.e3),(zr v0.2.2.x.regs.e4),(zr v0.2.2.x.regs.e5),(zr v0.2.2.x.regs.e6),(zr v0.2.2.x.regs.e7),(zr v0.2.2.x.regs.e8),(zr v0.2.2.x.regs.e9),(zr v0.2.2.x.regs.e10),(zr v0.2.2.x.regs.e11),(zr v0.2.2.x.regs.e12),(zr v0.2.2.x.regs.e13),(zr v0.2.2.x.regs.e14),(zr v0.2.2.x.regs.e15),(zr v0.2.2.x.pC)],.cells 112 [.own 2],.arr 46 (.i .u32) ((v0.2.2.m.getD default).words),.cells 118 [(zr 0),(zr 0),(zr 0)],.arr 46 (.i .u32) x1],GL,3,[],zO⟩)
def zuL(s:(Option zq))(p:Int)(epoch:Int)(x:zB)(ws:List Int):L63->Tree L63 R63 | .l2 v0 x0 x1 =>let y1:=v0.2.2.m.getD default;.c (decide (x0<v0.1.length)) (.g (zN x0 v0.1.length) <| .b (zey (some y1) (zw v0.1 x0.toNat)) fun r3=>.g (leB (((x1:List Int).length+([r3.1]:List Int).length)*4) 140737488355328) <| .j (.l2 v0 (i64.wrap (x0+1)) ((x1:List Int)++[r3.1]))) (.g v0.2.2.calls.isSome <| .b (zm2 ((v0.2.2.calls.getD default).ducts) v0.2.2.p (i64.wrap x.regs.e1) x1 (y1.words)) fun r4=>.r ((zi2 r4.1),r4.2.1,(⟨v0.2.2.calls,(some r4.2.2),v0.2.2.p,v0.2.2.epoch,v0.2.2.x⟩:zah)))
def zEC(s:(Option zq))(p:Int)(epoch:Int)(x:zB)(ws:List Int):Tree L63 R63:=.g (zN 1 16) <| .g (zN 3 16) <| .g s.isSome <| .b (zpl ((s.getD default).ducts) p (i64.wrap x.regs.e1)) fun r1=>.c (!((r1.2:Int)==0)) (.r ((zi2 r1.2),0,(⟨s,(some (⟨ws⟩:ze)),p,epoch,x⟩:zah))) (.c (((i64.wrap x.regs.e3):Int)==0) (.r ((zi2 3),0,(⟨s,(some (⟨ws⟩:ze)),p,epoch,x⟩:zah))) (.c (decide (((i64.wrap x.regs.e3):Int)>r1.1)) (.r ((zi2 3),0,(⟨s,(some (⟨ws⟩:ze)),p,epoch,x⟩:zah))) (.g (zN 2 16) <| .b (zpm x.regs.e2 (i64.wrap x.regs.e3) 1 s p epoch x ws) fun r2=>.c (!r2.2.1) (.r ((zi2 4),0,(⟨r2.2.2.calls,(some (r2.2.2.m.getD default)),r2.2.2.p,r2.2.2.epoch,r2.2.2.x⟩:zah))) (.j (.l2 r2 0 [])))))
def zsx(s:(Option zq))(p:Int)(epoch:Int)(x:zB)(ws:List Int):L63->Option R63:=zan (zuL s p epoch x ws)
theorem zsy(s:(Option zq))(p:Int)(epoch:Int)(x:zB)(ws:List Int)(l:L63):zsx s p epoch x ws l=(zuL s p epoch x ws l).run (zsx s p epoch x ws):=zF _ l
def zsQ(s:(Option zq))(p:Int)(epoch:Int)(x:zB)(ws:List Int):Option R63:=(zEC s p epoch x ws).run (zsx s p epoch x ws)
theorem zNu(s:(Option zq))(p:Int)(epoch:Int)(x:zB)(ws:List Int):Oks 63 [.ref 0 0] [.cells 116 [.op .sCallsCalls s,.ref 1 0,(zg p),(zg epoch),(zr x.regs.e0),(zr x.regs.e1),(zr x.regs.e2),(zr x.regs.e3),(zr x.regs.e4),(zr x.regs.e5),(zr x.regs.e6),(zr x.regs.e7),(zr x.regs.e8),(zr x.regs.e9),(zr x.regs.e10),(zr x.regs.e11),(zr x.regs.e12),(zr x.regs.e13),(zr x.regs.e14),(zr x.regs.e15),(zr x.pC)],.cells 112 [.own 2],.arr 46 (.i .u32) ws] (zsQ s p epoch x ws) to63:=zM GC6 (H:=H63) zJ Tryz.func63 rfl (by kernel_rfl) (st63 s p epoch x ws) (fun J l=>by cases l <;> kernel_rfl) (fun J=>by kernel_rfl)
abbrev R54:=(Option zaw) × Int
def to54(r:R54):Ans:=⟨.tup [.op .sBulkheadref22Devices r.1,(zg r.2)],[]⟩
inductive L54 where | l0 (x0:Int) (x1:Int) (x2:Int) (x3:Int) (x4:Int) (x5:List (List zam)) (x6:List zf) (x7:List zI) (x8:Int) (x9:List zj) (x10:List zE) (x11:Int) (x12:List z6) | l25 (x0:Int) (x1:Int) (x2:Int) (x3:Int) (x4:Int) (x5:List (List zam)) (x6:List zf) (x7:List zI) (x8:Int) (x9:List zj) (x10:List zE) (x11:Int) (x12:List z6)
def H54:zaa:=htt [12] [(0,⟨fgt [1,8,9] 55 0,[(.box 8 11,.sl .sFeed)]⟩),(25,⟨fgt [1,8,9] 55 0,[(.box 8 11,.sl .sFeed)]⟩)] [(.slot 0,.op .sBulkheadref22Devices)]
def st54(c:za)(feeds:(List z6)):L54->Nat × St | .l0 x0 x1 x2 x3 x4 x5 x6 x7 x8 x9 x10 x11 x12=>(0,⟨mkE [(1,.sl .sFeed feeds),(8,.ref 0 0),(9,(zg x0))] 55 0,[.cells 232 [(zg x1),(zg x2),(zg x3),(zg x4),.sl (.sl .sWindow) x5,.sl .sPartition x6,.sl .sChannel x7,(zg x8),.sl .sPartitionPlace x9,.sl .sChannelPlace x10,(zg x11),.sl .sFeed x12]],GL,0,[],zO⟩) | .l25 x0 x1 x2 x3 x4 x5 x6 x7 x8 x9 x10 x11 x12=>(25,⟨mkE [(1,.sl .sFeed feeds),(8,.ref 0 0),(9,(zg x0))] 55 0,[.cells 232 [(zg x1),(zg x2),(zg x3),(zg x4),.sl (.sl .sWindow) x5,.sl .sPartition x6,.sl .sChannel x7,(zg x8),.sl .sPartitionPlace x9,.sl .sChannelPlace x10,(zg x11),.sl .sFeed x12]],GL,0,[],zO⟩)
def zri(c:za)(feeds:(List z6)):L54->Tree L54 R54 | .l0 x0 x1 x2 x3 x4 x5 x6 x7 x8 x9 x10 x11 x12 =>let y1:=(⟨x1,x2,x3,x4,x5,x6,x7⟩:za);let y2:=(⟨x8,x9,x10,x11⟩:zaQ);let y3:=zA feeds x0.toNat;let y4:=zN x0 feeds.length;.c (decide (x0<feeds.length)) (.g y4 <| .c (decide (((y3.words).length:Int)>0)) (.g y4 <| .b (zsY y3 y1 y2 x12) fun r5=>.j (.l25 x0 r5.c.frames r5.c.major r5.c.kernel r5.c.room r5.c.cores r5.c.partitions r5.c.channels r5.l.barrier r5.l.partitions r5.l.channels r5.l.end_ r5.f)) (.j (.l25 x0 x1 x2 x3 x4 x5 x6 x7 x8 x9 x10 x11 x12))) (.r ((some (⟨y1,y2,x12⟩:zaw)),0)) | .l25 x0 x1 x2 x3 x4 x5 x6 x7 x8 x9 x10 x11 x12=>.j (.l0 (i64.wrap (x0+1)) x1 x2 x3 x4 x5 x6 x7 x8 x9 x10 x11 x12)
def zEw(c:za)(feeds:(List z6)):Tree L54 R54:=.c (decide ((feeds.length:Int)>4096)) (.r (none,2)) (.b (zfp c) fun r1=>.c (!((r1.1:Int)==0)) (.r (none,221)) (.b (zvY c feeds) fun r2=>.c (!r2) (.r (none,220)) (.b (zgN c) fun r4=>.j (.l0 0 c.frames c.major c.kernel c.room c.cores c.partitions c.channels r4.1.barrier r4.1.partitions r4.1.channels r4.1.end_ []))))
def zpb(c:za)(feeds:(List z6)):L54->Option R54:=zan (zri c feeds)
theorem zmY(c:za)(feeds:(List z6))(l:L54):zpb c feeds l=(zri c feeds l).run (zpb c feeds):=zF _ l
def zvQ(c:za)(feeds:(List z6)):Option R54:=(zEw c feeds).run (zpb c feeds)
theorem zNl(c:za)(feeds:(List z6)):Oks 54 [.agg (Ty.enc .sConfig c),.sl .sFeed feeds] [] (zvQ c feeds) to54:=zM GC6 (H:=H54) zJ Tryz.func54 rfl (by kernel_rfl) (st54 c feeds) (fun J l=>by cases l <;> kernel_rfl) (fun J=>by kernel_rfl)
abbrev R65:=zaM × Int × zah
def to65(r:R65):Ans:=⟨.tup [.agg [(zr r.1.one),(zr r.1.two),(zr r.1.three)],(zg r.2.1)],[.cells 116 [.op .sCallsCalls r.2.2.calls,.ref 1 0,(zg r.2.2.p),(zg r.2.2.epoch),(zr r.2.2.x.regs.e0),(zr r.2.2.x.regs.e1),(zr r.2.2.x.regs.e2),(zr r.2.2.x.regs.e3),(zr r.2.2.x.regs.e4),(zr r.2.2.x.regs.e5),(zr r.2.2.x.regs.e6),(zr r.2.2.x.regs.e7),(zr r.2.2.x.regs.e8),(zr r.2.2.x.regs.e9),(zr r.2.2.x.regs.e10),(zr r.2.2.x.regs.e11),(zr r.2.2.x.regs.e12),(zr r.2.2.x.regs.e13),(zr r.2.2.x.regs.e14),(zr r.2.2.x.regs.e15),(zr r.2.2.x.pC)],.cells 112 [.own 2],.arr 46 (.i .u32) ((r.2.2.m.getD default).words)]⟩
def zsS(s:(Option zq))(p:Int)(epoch:Int)(x:zB)(ws:List Int):Option R65:=Tree.run0 <|
 .g s.isSome <|
 .g (zN 1 16) <|
 .b (zm5 ((s.getD default).ducts) p (i64.wrap x.regs.e1) ws) fun r1=>
 .r ((⟨(u32.wrap r1.1),r1.2.1,r1.2.2.1⟩:zaM),r1.2.2.2.1,(⟨s,(some r1.2.2.2.2),p,epoch,x⟩:zah))
theorem zNw(s:(Option zq))(p:Int)(epoch:Int)(x:zB)(ws:List Int):Oks 65 [.ref 0 0] [.cells 116 [.op .sCallsCalls s,.ref 1 0,(zg p),(zg epoch),(zr x.regs.e0),(zr x.regs.e1),(zr x.regs.e2),(zr x.regs.e3),(zr x.regs.e4),(zr x.regs.e5),(zr x.regs.e6),(zr x.regs.e7),(zr x.regs.e8),(zr x.regs.e9),(zr x.regs.e10),(zr x.regs.e11),(zr x.regs.e12),(zr x.regs.e13),(zr x.regs.e14),(zr x.regs.e15),(zr x.pC)],.cells 112 [.own 2],.arr 46 (.i .u32) ws] (zsS s p epoch x ws) to65:=zL GC6 (H:=H0) zJ Tryz.func65 rfl (by kernel_rfl) (fun J=>by kernel_rfl)
abbrev R45:=Int × zaY
def to45(r:R45):Ans:=⟨.tup [(zg r.1),.agg [(zg r.2.first),(zg r.2.second)]],[]⟩
inductive L45 where | l0 (v0:R75) (x0:Int)
def H45:zaa:=htt [] [(0,⟨fgt [3,8,9,10] 25 0,[]⟩)] []
def st45(c:za):L45->Nat × St | .l0 v0 x0=>(0,⟨mkE [(3,.ref 0 0),(8,.own 1),(9,(zg v0.length)),(10,(zg x0))] 25 0,[.cells 144 [(zg 0),(zg 0)],.arr 192 .f v0],GL,0,[],zO⟩)
def zuG(c:za):L45->Tree L45 R45 | .l0 v0 x0=>.c (decide (x0<v0.length)) (.g (zN x0 v0.length) <| .b (ask (zfP v0 x0.toNat)) fun r3=>.c (!(((r3.e:Int)==fine.e)&&((((r3.where_.first:Int)==fine.where_.first)&&(((r3.where_.second:Int)==fine.where_.second)&&true))&&true))) (.r (r3.e,r3.where_)) (.j (.l0 v0 (i64.wrap (x0+1))))) (.r (0,(⟨0,0⟩:zaY)))
def zEp(c:za):Tree L45 R45:=.b (zBI c) fun r2=>.j (.l0 r2 0)
def zsn(c:za):L45->Option R45:=zan (zuG c)
theorem zso(c:za)(l:L45):zsn c l=(zuG c l).run (zsn c):=zF _ l
def zdI(c:za):Option R45:=(zEp c).run (zsn c)
theorem zNc(c:za):Oks 45 [.agg (Ty.enc .sConfig c)] [] (zdI c) to45:=zM GC6 (H:=H45) zJ Tryz.func45 rfl (by kernel_rfl) (st45 c) (fun J l=>by cases l <;> kernel_rfl) (fun J=>by kernel_rfl)
abbrev R9:=Int × ze
def to9(r:R9):Ans:=⟨(zg r.1),[.cells 112 [.own 1],.arr 46 (.i .u32) r.2.words]⟩
def zuk(s:(Option zq))(ws:List Int):Option R9:=Tree.run0 <|
 .c s.isNone
 (.r (3,(⟨ws⟩:ze)))
 (.b (zdH (some (⟨ws⟩:ze))) fun r1=>
 .g s.isSome <|
 .c (!((r1:Int)==(s.getD default).frames))
 (.r (250,(⟨ws⟩:ze)))
 (.g s.isSome <|
 .b (zsM ((s.getD default).ducts) ws) fun r2=>
 .r (r2.1,r2.2)))
theorem oks9(s:(Option zq))(ws:List Int):Oks 9 [.op .sCallsCalls s,.ref 0 0] [.cells 112 [.own 1],.arr 46 (.i .u32) ws] (zuk s ws) to9:=zL GC6 (H:=H0) zJ Tryz.func9 rfl (by kernel_rfl) (fun J=>by kernel_rfl)
abbrev R30:=(List Int) × Int × Int
def to30(r:R30):Ans:=⟨.tup [.sl (.i .u32) r.1,(zg r.2.1),(zg r.2.2)],[]⟩
inductive L30 where | l0 (x0:Int) | l4 (v0:R51) (x0:Int) (x1:List Int) | l31 (v0:R51) (x0:Int) (x1:List Int)
def H30:zaa:=htt [15] [(0,⟨fgt [1,2,9] 102 0,[]⟩),(4,⟨fgt [1,2,10,12,13] 102 0,[]⟩),(31,⟨fgt [1,2,10,12,13] 102 0,[]⟩)] [(.slot 0,.sl (.i .u32))]
def st30(c:za)(programs:(List (List Int))):L30->Nat × St | .l0 x0=>(0,⟨mkE [(1,.sl (.sl (.i .u32)) programs),(2,.ref 0 0),(9,(zg x0))] 102 0,[.cells 26 (Ty.enc .sConfig c)],GL,0,[],zO⟩) | .l4 v0 x0 x1=>(4,⟨mkE [(1,.sl (.sl (.i .u32)) programs),(2,.ref 0 0),(10,.ref 1 0),(12,.own 2),(13,(zg x0))] 102 0,[.cells 26 (Ty.enc .sConfig c),.cells 104 (Ty.enc .sLayout v0.1),.arr 46 (.i .u32) x1],GL,0,[],zO⟩) | .l31 v0 x0 x1=>(31,⟨mkE [(1,.sl (.sl (.i .u32)) programs),(2,.ref 0 0),(10,.ref 1 0),(12,.own 2),(13,(zg x0))] 102 0,[.cells 26 (Ty.enc .sConfig c),.cells 104 (Ty.enc .sLayout v0.1),.arr 46 (.i .u32) x1],GL,0,[],zO⟩)
def zlR(c:za)(programs:(List (List Int))):L30->Tree L30 R30 | .l0 x0 =>let y1:=i64.wrap (c.frames*16);.c (decide (x0<programs.length)) (.g (zN x0 c.partitions.length) <| .g (zN x0 programs.length) <| .b (zsO (zb c.partitions x0.toNat) (zW programs x0.toNat)) fun r2=>.c (!r2) (.r ([],241,x0)) (.j (.l0 (i64.wrap (x0+1))))) (.b (zgN c) fun r4=>.g (decide ((y1:Int)=y1)&&decide (0<=y1)&&leB (y1.toNat*4) 140737488355328) <| .j (.l4 r4 0 (List.replicate y1.toNat (0:Int)))) | .l4 v0 x0 x1 =>let y2:=zb c.partitions x0.toNat;let y3:=zm v0.1.partitions x0.toNat;let y1:=i64.wrap (y3.save+16);let y4:=zN x0 v0.1.partitions.length;let y5:=u32.wrap (y2.entry);.c (decide (x0<c.partitions.length)) (.g (zN x0 c.partitions.length) <| .g y4 <| .b (zpg y2 y3 x1) fun r5=>.g y4 <| .g (zN y1 r5.length) <| .c (decide (x0<programs.length)) (.g (zN x0 programs.length) <| .b (zph y2 (zW programs x0.toNat) (List.set r5 (y1.toNat) y5)) fun r6=>.j (.l31 v0 x0 r6)) (.j (.l31 v0 x0 (List.set r5 (y1.toNat) y5)))) (.r (x1,0,(-1))) | .l31 v0 x0 x1=>.j (.l4 v0 (i64.wrap (x0+1)) x1)
def zEm(c:za)(programs:(List (List Int))):Tree L30 R30:=.b (zfp c) fun r1=>.c (!((r1.1:Int)==0)) (.r ([],240,(-1))) (.c (decide ((programs.length:Int)>c.partitions.length)) (.r ([],241,c.partitions.length)) (.j (.l0 0)))
def zi7(c:za)(programs:(List (List Int))):L30->Option R30:=zan (zlR c programs)
theorem zgC(c:za)(programs:(List (List Int)))(l:L30):zi7 c programs l=(zlR c programs l).run (zi7 c programs):=zF _ l
def zfX(c:za)(programs:(List (List Int))):Option R30:=(zEm c programs).run (zi7 c programs)
theorem zM0(c:za)(programs:(List (List Int))):Oks 30 [.agg (Ty.enc .sConfig c),.sl (.sl (.i .u32)) programs] [] (zfX c programs) to30:=zM GC6 (H:=H30) zJ Tryz.func30 rfl (by kernel_rfl) (st30 c programs) (fun J l=>by cases l <;> kernel_rfl) (fun J=>by kernel_rfl)
abbrev R64:=zaM × Int × zah
def to64(r:R64):Ans:=⟨.tup [.agg [(zr r.1.one),(zr r.1.two),(zr r.1.three)],(zg r.2.1)],[.cells 116 [.op .sCallsCalls r.2.2.calls,.ref 1 0,(zg r.2.2.p),(zg r.2.2.epoch),(zr r.2.2.x.regs.e0),(zr r.2.2.x.regs.e1),(zr r.2.2.x.regs.e2),(zr r.2.2.x.regs.e3),(zr r.2.2.x.regs.e4),(zr r.2.2.x.regs.e5),(zr r.2.2.x.regs.e6),(zr r.2.2.x.regs.e7),(zr r.2.2.x.regs.e8),(zr r.2.2.x.regs.e9),(zr r.2.2.x.regs.e10),(zr r.2.2.x.regs.e11),(zr r.2.2.x.regs.e12),(zr r.2.2.x.regs.e13),(zr r.2.2.x.regs.e14),(zr r.2.2.x.regs.e15),(zr r.2.2.x.pC)],.cells 112 [.own 2],.arr 46 (.i .u32) ((r.2.2.m.getD default).words)]⟩
inductive L64 where | l0 (v0:zCC) (v1:R99) (x0:Int) (x1:List Int)
def H64:zaa:=htt [] [(0,⟨fgt [0,2,6,7,89,90,91] 112 0,[]⟩)] []
def st64(s:(Option zq))(p:Int)(epoch:Int)(x:zB)(ws:List Int):L64->Nat × St | .l0 v0 v1 x0 x1=>(0,⟨mkE [(0,.ref 0 0),(2,.ref 3 0),(6,.sl (.i .u32) v0.2.1),(7,(zr v0.2.2.1)),(89,.sl (.i .i64) v1.1),(90,(zg v1.1.length)),(91,(zg x0))] 112 0,[.cells 116 [.op .sCallsCalls v1.2.2.calls,.ref 1 0,(zg v1.2.2.p),(zg v1.2.2.epoch),(zr v1.2.2.x.regs.e0),(zr v1.2.2.x.regs.e1),(zr v1.2.2.x.regs.e2),(zr v1.2.2.x.regs.e3),(zr v1.2.2.x.regs.e4),(zr v1.2.2.x.regs.e5),(zr v1.2.2.x.regs.e6),(zr v1.2.2.x.regs.e7),(zr v1.2.2.x.regs.e8),(zr v1.2.2.x.regs.e9),(zr v1.2.2.x.regs.e10),(zr v1.2.2.x.regs.e11),(zr v1.2.2.x.regs.e12),(zr v1.2.2.x.regs.e13),(zr v1.2.2.x.regs.e14),(zr v1.2.2.x.regs.e15),(zr v1.2.2.x.pC)],.cells 112 [.own 2],.arr 46 (.i .u32) x1,.cells 118 [(zr 0),(zr 0),(zr 0)]],GL,3,[],zO⟩)
def zuM(s:(Option zq))(p:Int)(epoch:Int)(x:zB)(ws:List Int):L64->Tree L64 R64 | .l0 v0 v1 x0 x1=>.c (decide (x0<v1.1.length)) (.g (zN x0 v1.1.length) <| .g (zN x0 v0.2.1.length) <| .b (zdN (zw v1.1 x0.toNat) (zw v0.2.1 x0.toNat) x1) fun r4=>.j (.l0 v0 v1 (i64.wrap (x0+1)) r4.2.words)) (.r ((⟨0,(u32.wrap v0.2.1.length),v0.2.2.1⟩:zaM),0,(⟨v1.2.2.calls,(some (⟨x1⟩:ze)),v1.2.2.p,v1.2.2.epoch,v1.2.2.x⟩:zah)))
def zED(s:(Option zq))(p:Int)(epoch:Int)(x:zB)(ws:List Int):Tree L64 R64:=.g (zN 1 16) <| .g s.isSome <| .b (zm3 ((s.getD default).ducts) p (i64.wrap x.regs.e1) ws) fun r1=>.c (!((r1.2.2.2.1:Int)==0)) (.r ((zi2 r1.1),r1.2.2.2.1,(⟨s,(some r1.2.2.2.2),p,epoch,x⟩:zah))) (.c (!((r1.1:Int)==0)) (.r ((zi2 r1.1),r1.2.2.2.1,(⟨s,(some r1.2.2.2.2),p,epoch,x⟩:zah))) (.g (zN 2 16) <| .b (zpm x.regs.e2 r1.2.1.length 2 s p epoch x r1.2.2.2.2.words) fun r2=>.c (!r2.2.1) (.r ((zi2 4),0,(⟨r2.2.2.calls,(some (r2.2.2.m.getD default)),r2.2.2.p,r2.2.2.epoch,r2.2.2.x⟩:zah))) (.g r2.2.2.calls.isSome <| .b (zm4 ((r2.2.2.calls.getD default).ducts) r2.2.2.p (i64.wrap x.regs.e1) ((r2.2.2.m.getD default).words)) fun r3=>.c (!((r3.1:Int)==0)) (.r ((⟨0,0,0⟩:zaM),r3.1,(⟨r2.2.2.calls,(some r3.2),r2.2.2.p,r2.2.2.epoch,r2.2.2.x⟩:zah))) (.j (.l0 r1 r2 0 r3.2.words)))))
def zsz(s:(Option zq))(p:Int)(epoch:Int)(x:zB)(ws:List Int):L64->Option R64:=zan (zuM s p epoch x ws)
theorem zsA(s:(Option zq))(p:Int)(epoch:Int)(x:zB)(ws:List Int)(l:L64):zsz s p epoch x ws l=(zuM s p epoch x ws l).run (zsz s p epoch x ws):=zF _ l
def zsR(s:(Option zq))(p:Int)(epoch:Int)(x:zB)(ws:List Int):Option R64:=(zED s p epoch x ws).run (zsz s p epoch x ws)
theorem zNv(s:(Option zq))(p:Int)(epoch:Int)(x:zB)(ws:List Int):Oks 64 [.ref 0 0] [.cells 116 [.op .sCallsCalls s,.ref 1 0,(zg p),(zg epoch),(zr x.regs.e0),(zr x.regs.e1),(zr x.regs.e2),(zr x.regs.e3),(zr x.regs.e4),(zr x.regs.e5),(zr x.regs.e6),(zr x.regs.e7),(zr x.regs.e8),(zr x.regs.e9),(zr x.regs.e10),(zr x.regs.e11),(zr x.regs.e12),(zr x.regs.e13),(zr x.regs.e14),(zr x.regs.e15),(zr x.pC)],.cells 112 [.own 2],.arr 46 (.i .u32) ws] (zsR s p epoch x ws) to64:=zM GC6 (H:=H64) zJ Tryz.func64 rfl (by kernel_rfl) (st64 s p epoch x ws) (fun J l=>by cases l <;> kernel_rfl) (fun J=>by kernel_rfl)
abbrev R53:=(Option zaT) × Int
def to53(r:R53):Ans:=⟨.tup [.op .sBulkheadref23Wards r.1,(zg r.2)],[]⟩
def H53:zaa:=⟨fun _=>false,fun _=>⟨[],[]⟩,[(.slot 0,.op .sBulkheadref23Wards)],G0,zO⟩
def zvP(c:za):Option R53:=Tree.run0 <|
 .b (zfp c) fun r1=>
 .c (!((r1.1:Int)==0))
 (.r (none,232))
 (.b (zgN c) fun r3=>
 .c (!((r3.2:Int)==0))
 (.r (none,232))
 (.r ((some (⟨c,r3.1⟩:zaT)),0)))
theorem zNk(c:za):Oks 53 [.agg (Ty.enc .sConfig c)] [] (zvP c) to53:=zL GC6 (H:=H53) zJ Tryz.func53 rfl (by kernel_rfl) (fun J=>by kernel_rfl)
abbrev R52:=(Option zaS) × Int
def to52(r:R52):Ans:=⟨.tup [.op .sBulkheadref21Ducts r.1,(zg r.2)],[]⟩
def H52:zaa:=⟨fun _=>false,fun _=>⟨[],[]⟩,[(.slot 0,.op .sBulkheadref21Ducts)],G0,zO⟩
def zvO(c:za):Option R52:=Tree.run0 <|
 .b (zfp c) fun r1=>
 .c (!((r1.1:Int)==0))
 (.r (none,210))
 (.b (zgN c) fun r3=>
 .r ((some (⟨c,r3.1⟩:zaS)),0))
theorem zNj(c:za):Oks 52 [.agg (Ty.enc .sConfig c)] [] (zvO c) to52:=zL GC6 (H:=H52) zJ Tryz.func52 rfl (by kernel_rfl) (fun J=>by kernel_rfl)
def g9(args:List AV)(hp:List Blk):Option Rsp:=
 match args,hp with
 | [a0,.ref 0 0],[.cells 112 [.own 1],.arr 46 (.i .u32) y0]=>(rdL (.p .sCallsCalls) a0).bind fun b0=>some ⟨R9,(zuk b0 y0),to9,default⟩
 | _,_=>none
def k9:Fk 9:=⟨g9,fun args hp y h x hx=>by
 unfold g9 at h
 split at h
 . simp only[Option.bind_eq_some_iff]at h
   obtain ⟨b0,h0,h⟩:=h
   cases h;exact(oks9 b0 _).ats (.cons (z8 h0) (.cons (fun _ _ _ _ h=>h) .nil)) hx
 . cases h⟩
def k30:Fk 30:=aF (aS .sConfig fun a0=>aL (.sl (.sl (.i .u32))) fun a1=>aE (zM0 a0 a1))
def k45:Fk 45:=aF (aS .sConfig fun a0=>aE (zNc a0))
def k52:Fk 52:=aF (aS .sConfig fun a0=>aE (zNj a0))
def k53:Fk 53:=aF (aS .sConfig fun a0=>aE (zNk a0))
def k54:Fk 54:=aF (aS .sConfig fun a0=>aL (.sl .sFeed) fun a1=>aE (zNl a0 a1))
def g63(args:List AV)(hp:List Blk):Option Rsp:=
 match args,hp with
 | [.ref 0 0],[.cells 116 [.op .sCallsCalls y0,.ref 1 0,.v (.int .i64 y1),.v (.int .i64 y2),.v (.int .u32 y3),.v (.int .u32 y4),.v (.int .u32 y5),.v (.int .u32 y6),.v (.int .u32 y7),.v (.int .u32 y8),.v (.int .u32 y9),.v (.int .u32 y10),.v (.int .u32 y11),.v (.int .u32 y12),.v (.int .u32 y13),.v (.int .u32 y14),.v (.int .u32 y15),.v (.int .u32 y16),.v (.int .u32 y17),.v (.int .u32 y18),.v (.int .u32 y19)],.cells 112 [.own 2],.arr 46 (.i .u32) y20]=>some ⟨R63,(zsQ y0 y1 y2 (⟨(⟨y3,y4,y5,y6,y7,y8,y9,y10,y11,y12,y13,y14,y15,y16,y17,y18⟩:zZ),y19⟩:zB) y20),to63,default⟩
 | _,_=>none
def k63:Fk 63:=⟨g63,fun args hp y h x hx=>by
 unfold g63 at h
 split at h
 . cases h;exact(zNu _ _ _ _ _).ats (.cons (fun _ _ _ _ h=>h) .nil) hx
 . cases h⟩
def g64(args:List AV)(hp:List Blk):Option Rsp:=
 match args,hp with
 | [.ref 0 0],[.cells 116 [.op .sCallsCalls y0,.ref 1 0,.v (.int .i64 y1),.v (.int .i64 y2),.v (.int .u32 y3),.v (.int .u32 y4),.v (.int .u32 y5),.v (.int .u32 y6),.v (.int .u32 y7),.v (.int .u32 y8),.v (.int .u32 y9),.v (.int .u32 y10),.v (.int .u32 y11),.v (.int .u32 y12),.v (.int .u32 y13),.v (.int .u32 y14),.v (.int .u32 y15),.v (.int .u32 y16),.v (.int .u32 y17),.v (.int .u32 y18),.v (.int .u32 y19)],.cells 112 [.own 2],.arr 46 (.i .u32) y20]=>some ⟨R64,(zsR y0 y1 y2 (⟨(⟨y3,y4,y5,y6,y7,y8,y9,y10,y11,y12,y13,y14,y15,y16,y17,y18⟩:zZ),y19⟩:zB) y20),to64,default⟩
 | _,_=>none
def k64:Fk 64:=⟨g64,fun args hp y h x hx=>by
 unfold g64 at h
 split at h
 . cases h;exact(zNv _ _ _ _ _).ats (.cons (fun _ _ _ _ h=>h) .nil) hx
 . cases h⟩
def g65(args:List AV)(hp:List Blk):Option Rsp:=
 match args,hp with
 | [.ref 0 0],[.cells 116 [.op .sCallsCalls y0,.ref 1 0,.v (.int .i64 y1),.v (.int .i64 y2),.v (.int .u32 y3),.v (.int .u32 y4),.v (.int .u32 y5),.v (.int .u32 y6),.v (.int .u32 y7),.v (.int .u32 y8),.v (.int .u32 y9),.v (.int .u32 y10),.v (.int .u32 y11),.v (.int .u32 y12),.v (.int .u32 y13),.v (.int .u32 y14),.v (.int .u32 y15),.v (.int .u32 y16),.v (.int .u32 y17),.v (.int .u32 y18),.v (.int .u32 y19)],.cells 112 [.own 2],.arr 46 (.i .u32) y20]=>some ⟨R65,(zsS y0 y1 y2 (⟨(⟨y3,y4,y5,y6,y7,y8,y9,y10,y11,y12,y13,y14,y15,y16,y17,y18⟩:zZ),y19⟩:zB) y20),to65,default⟩
 | _,_=>none
def k65:Fk 65:=⟨g65,fun args hp y h x hx=>by
 unfold g65 at h
 split at h
 . cases h;exact(zNw _ _ _ _ _).ats (.cons (fun _ _ _ _ h=>h) .nil) hx
 . cases h⟩
def GC7:GK:=zlj [⟨9,k9⟩,⟨30,k30⟩,⟨45,k45⟩,⟨52,k52⟩,⟨53,k53⟩,⟨54,k54⟩,⟨63,k63⟩,⟨64,k64⟩,⟨65,k65⟩] GC6
abbrev R46:=zT × Int
def to46(r:R46):Ans:=⟨.tup [.ref 0 0,(zg r.2)],[.cells 197 [(zg r.1.frames),.own 1,.own 2,.om 3],.arr 3 (.i .i64) r.1.outs,.arr 3 (.i .i64) r.1.at_,.map .sDeviceWhen (.sl (.i .u32)) [(0,46)] r.1.feeds]⟩
inductive L46 where | l0 (v0:R47) (x0:Int) (x1:List Int) (x2:List Int) | l4 (x0:Int) (x1:List Int) (x2:List Int) (x3:(List (zR × (List Int)))) | l8 (x0:Int) (x1:List Int) (x2:List Int) (x3:(List (zR × (List Int)))) | l61 (x0:Int) (x1:List Int) (x2:List Int) (x3:(List (zR × (List Int))))
def H46:zaa:=⟨fun n=>[30].any (Nat.beq n),zgf [(0,⟨fgt [1,2,8,10,43,44,45] 165 0,[(.box 10 1,.own 3 (.i .i64)),(.box 10 2,.own 3 (.i .i64))]⟩),(4,⟨fgt [1,2,10,78,79,80] 165 0,[]⟩),(8,⟨fgt [10,144,145,146] 165 0,[]⟩),(61,⟨fgt [10,144,145,146] 165 0,[]⟩)],[(.slot 0,.fnc)],G0,(fun e=>match e with | 72=>[(6,138),(7,74)] | 136=>[(0,135)] | 140=>[(4,3)] | 189=>[(4,209)] | 195=>[(0,46)] | _=>[])⟩
def st46(c:za)(feeds:(List z6)):L46->Nat × St | .l0 v0 x0 x1 x2=>(0,⟨mkE [(1,.sl .sFeed feeds),(2,.ref 0 0),(8,.ref 1 0),(10,.ref 4 0),(43,.sl .sPartition c.partitions),(44,(zg c.partitions.length)),(45,(zg x0))] 165 0,[.cells 26 (Ty.enc .sConfig c),.cells 104 [(zg v0.1.barrier),.own 2,.own 3,(zg v0.1.end_)],.row 140 .sPartitionPlace [(4,3)] [] v0.1.partitions,.row 189 .sChannelPlace [(4,209)] [] v0.1.channels,.cells 197 [(zg c.frames),.own 5,.own 6,.om 7],.arr 3 (.i .i64) x1,.arr 3 (.i .i64) x2,.map .sDeviceWhen (.sl (.i .u32)) [(0,46)] []],GL,0,[],(fun e=>match e with | 72=>[(6,138),(7,74)] | 136=>[(0,135)] | 140=>[(4,3)] | 189=>[(4,209)] | 195=>[(0,46)] | _=>[])⟩) | .l4 x0 x1 x2 x3=>(4,⟨mkE [(1,.sl .sFeed feeds),(2,.ref 0 0),(10,.ref 1 0),(78,.sl .sFeed feeds),(79,(zg feeds.length)),(80,(zg x0))] 165 0,[.cells 26 (Ty.enc .sConfig c),.cells 197 [(zg c.frames),.own 2,.own 3,.om 4],.arr 3 (.i .i64) x1,.arr 3 (.i .i64) x2,.map .sDeviceWhen (.sl (.i .u32)) [(0,46)] x3],GL,0,[],(fun e=>match e with | 72=>[(6,138),(7,74)] | 136=>[(0,135)] | 140=>[(4,3)] | 189=>[(4,209)] | 195=>[(0,46)] | _=>[])⟩) | .l8 x0 x1 x2 x3=>(8,⟨mkE [(10,.ref 0 0),(144,.sl .sFeed feeds),(145,(zg feeds.length)),(146,(zg x0))] 165 0,[.cells 197 [(zg c.frames),.own 1,.own 2,.om 3],.arr 3 (.i .i64) x1,.arr 3 (.i .i64) x2,.map .sDeviceWhen (.sl (.i .u32)) [(0,46)] x3],GL,0,[],(fun e=>match e with | 72=>[(6,138),(7,74)] | 136=>[(0,135)] | 140=>[(4,3)] | 189=>[(4,209)] | 195=>[(0,46)] | _=>[])⟩) | .l61 x0 x1 x2 x3=>(61,⟨mkE [(10,.ref 0 0),(144,.sl .sFeed feeds),(145,(zg feeds.length)),(146,(zg x0))] 165 0,[.cells 197 [(zg c.frames),.own 1,.own 2,.om 3],.arr 3 (.i .i64) x1,.arr 3 (.i .i64) x2,.map .sDeviceWhen (.sl (.i .u32)) [(0,46)] x3],GL,0,[],(fun e=>match e with | 72=>[(6,138),(7,74)] | 136=>[(0,135)] | 140=>[(4,3)] | 189=>[(4,209)] | 195=>[(0,46)] | _=>[])⟩)
def ziw(c:za)(feeds:(List z6)):L46->Tree L46 R46 | .l0 v0 x0 x1 x2 =>let y1:=i64.wrap ((zm v0.1.partitions x0.toNat).state+4);let y2:=zb c.partitions x0.toNat;.c (decide (x0<c.partitions.length)) (.g (zN x0 c.partitions.length) <| .g (leB (((x1:List Int).length+([y2.outputs]:List Int).length)*8) 140737488355328) <| .g (zN x0 v0.1.partitions.length) <| .g (leB (((x2:List Int).length+([y1]:List Int).length)*8) 140737488355328) <| .j (.l0 v0 (i64.wrap (x0+1)) ((x1:List Int)++[y2.outputs]) ((x2:List Int)++[y1]))) (.j (.l4 0 x1 x2 [])) | .l4 x0 x1 x2 x3 =>let y1:=zA feeds x0.toNat;let y2:=(y1.partition:Int);let y3:=(y1.epoch:Int);.c (decide (x0<feeds.length)) (.g (zN x0 feeds.length) <| .b (zen (fun x:zR=>some ((y2==x.partition)&&((y3==x.epoch)&&true))) x3) fun r3=>.c r3.isSome (.n) (.c (decide (y2<0)) (.n) (.c (decide (y2>=c.partitions.length)) (.n) (.c (decide (y3<0)) (.n) (.c (decide (y3>=1073741824)) (.n) (.g (zN (y1.partition) c.partitions.length) <| .c (decide (((y1.words).length:Int)>(zb c.partitions ((y1.partition).toNat)).inputs)) (.n) (.b (zgL (y1.words)) fun r4=>.b (znU (fun x:zR=>some ((y2==x.partition)&&((y3==x.epoch)&&true))) false (⟨y1.partition,y1.epoch⟩:zR) r4 x3) fun r5=>.j (.l4 (i64.wrap (x0+1)) x1 x2 r5)))))))) (.j (.l8 0 x1 x2 x3)) | .l8 x0 x1 x2 x3 =>let y1:=zA feeds x0.toNat;.c (decide (x0<feeds.length)) (.g (zN x0 feeds.length) <| .c (((y1.words).length:Int)==0) (.b (zqc (fun x:zR=>some (((y1.partition:Int)==x.partition)&&(((y1.epoch:Int)==x.epoch)&&true))) x3) fun r6=>.j (.l61 x0 x1 x2 r6)) (.j (.l61 x0 x1 x2 x3))) (.r ((⟨c.frames,x1,x2,x3⟩:zT),0)) | .l61 x0 x1 x2 x3=>.j (.l8 (i64.wrap (x0+1)) x1 x2 x3)
def zEq(c:za)(feeds:(List z6)):Tree L46 R46:=.c (decide ((feeds.length:Int)>4096)) (.n) (.b (zdI c) fun r1=>.c (!((r1.1:Int)==0)) (.n) (.b (zcZ c) fun r2=>.c (!((r2.2:Int)==0)) (.n) (.j (.l0 r2 0 [] []))))
def zdT(c:za)(feeds:(List z6)):L46->Option R46:=zan (ziw c feeds)
theorem zeu(c:za)(feeds:(List z6))(l:L46):zdT c feeds l=(ziw c feeds l).run (zdT c feeds):=zF _ l
def znu(c:za)(feeds:(List z6)):Option R46:=(zEq c feeds).run (zdT c feeds)
theorem zNd(c:za)(feeds:(List z6)):Oks 46 [.agg (Ty.enc .sConfig c),.sl .sFeed feeds] [] (znu c feeds) to46:=zM GC7 (H:=H46) zJ Tryz.func46 rfl (by kernel_rfl) (st46 c feeds) (fun J l=>by cases l <;> kernel_rfl) (fun J=>by kernel_rfl)
abbrev zio:=(Option zT) × Int
def zB6(r:zio):Ans:=⟨.tup [.v (.pointer none),(zg r.2)],[]⟩
inductive zgT where | l0 (v0:R47) (x0:Int) (x1:List Int) (x2:List Int) | l4 (x0:Int) (x1:List Int) (x2:List Int) (x3:(List (zR × (List Int)))) | l8 (x0:Int) (x1:List Int) (x2:List Int) (x3:(List (zR × (List Int)))) | l61 (x0:Int) (x1:List Int) (x2:List Int) (x3:(List (zR × (List Int))))
def zCv:zaa:=⟨fun n=>[30].any (Nat.beq n),zgf [(0,⟨fgt [1,2,8,10,43,44,45] 165 0,[(.box 10 1,.own 3 (.i .i64)),(.box 10 2,.own 3 (.i .i64))]⟩),(4,⟨fgt [1,2,10,78,79,80] 165 0,[]⟩),(8,⟨fgt [10,144,145,146] 165 0,[]⟩),(61,⟨fgt [10,144,145,146] 165 0,[]⟩)],[(.slot 0,.nilp)],G0,(fun e=>match e with | 72=>[(6,138),(7,74)] | 136=>[(0,135)] | 140=>[(4,3)] | 189=>[(4,209)] | 195=>[(0,46)] | _=>[])⟩
def zBP(c:za)(feeds:(List z6)):zgT->Nat × St | .l0 v0 x0 x1 x2=>(0,⟨mkE [(1,.sl .sFeed feeds),(2,.ref 0 0),(8,.ref 1 0),(10,.ref 4 0),(43,.sl .sPartition c.partitions),(44,(zg c.partitions.length)),(45,(zg x0))] 165 0,[.cells 26 (Ty.enc .sConfig c),.cells 104 [(zg v0.1.barrier),.own 2,.own 3,(zg v0.1.end_)],.row 140 .sPartitionPlace [(4,3)] [] v0.1.partitions,.row 189 .sChannelPlace [(4,209)] [] v0.1.channels,.cells 197 [(zg c.frames),.own 5,.own 6,.om 7],.arr 3 (.i .i64) x1,.arr 3 (.i .i64) x2,.map .sDeviceWhen (.sl (.i .u32)) [(0,46)] []],GL,0,[],(fun e=>match e with | 72=>[(6,138),(7,74)] | 136=>[(0,135)] | 140=>[(4,3)] | 189=>[(4,209)] | 195=>[(0,46)] | _=>[])⟩) | .l4 x0 x1 x2 x3=>(4,⟨mkE [(1,.sl .sFeed feeds),(2,.ref 0 0),(10,.ref 1 0),(78,.sl .sFeed feeds),(79,(zg feeds.length)),(80,(zg x0))] 165 0,[.cells 26 (Ty.enc .sConfig c),.cells 197 [(zg c.frames),.own 2,.own 3,.om 4],.arr 3 (.i .i64) x1,.arr 3 (.i .i64) x2,.map .sDeviceWhen (.sl (.i .u32)) [(0,46)] x3],GL,0,[],(fun e=>match e with | 72=>[(6,138),(7,74)] | 136=>[(0,135)] | 140=>[(4,3)] | 189=>[(4,209)] | 195=>[(0,46)] | _=>[])⟩) | .l8 x0 x1 x2 x3=>(8,⟨mkE [(10,.ref 0 0),(144,.sl .sFeed feeds),(145,(zg feeds.length)),(146,(zg x0))] 165 0,[.cells 197 [(zg c.frames),.own 1,.own 2,.om 3],.arr 3 (.i .i64) x1,.arr 3 (.i .i64) x2,.map .sDeviceWhen (.sl (.i .u32)) [(0,46)] x3],GL,0,[],(fun e=>match e with | 72=>[(6,138),(7,74)] | 136=>[(0,135)] | 140=>[(4,3)] | 189=>[(4,209)] | 195=>[(0,46)] | _=>[])⟩) | .l61 x0 x1 x2 x3=>(61,⟨mkE [(10,.ref 0 0),(144,.sl .sFeed feeds),(145,(zg feeds.length)),(146,(zg x0))] 165 0,[.cells 197 [(zg c.frames),.own 1,.own 2,.om 3],.arr 3 (.i .i64) x1,.arr 3 (.i .i64) x2,.map .sDeviceWhen (.sl (.i .u32)) [(0,46)] x3],GL,0,[],(fun e=>match e with | 72=>[(6,138),(7,74)] | 136=>[(0,135)] | 140=>[(4,3)] | 189=>[(4,209)] | 195=>[(0,46)] | _=>[])⟩)
def ze0(c:za)(feeds:(List z6)):zgT->Tree zgT zio | .l0 v0 x0 x1 x2 =>let y1:=i64.wrap ((zm v0.1.partitions x0.toNat).state+4);let y2:=zb c.partitions x0.toNat;.c (decide (x0<c.partitions.length)) (.g (zN x0 c.partitions.length) <| .g (leB (((x1:List Int).length+([y2.outputs]:List Int).length)*8) 140737488355328) <| .g (zN x0 v0.1.partitions.length) <| .g (leB (((x2:List Int).length+([y1]:List Int).length)*8) 140737488355328) <| .j (.l0 v0 (i64.wrap (x0+1)) ((x1:List Int)++[y2.outputs]) ((x2:List Int)++[y1]))) (.j (.l4 0 x1 x2 [])) | .l4 x0 x1 x2 x3 =>let y1:=zA feeds x0.toNat;let y2:=(y1.partition:Int);let y3:=(y1.epoch:Int);.c (decide (x0<feeds.length)) (.g (zN x0 feeds.length) <| .b (zen (fun x:zR=>some ((y2==x.partition)&&((y3==x.epoch)&&true))) x3) fun r3=>.c r3.isSome (.r (none,220)) (.c (decide (y2<0)) (.r (none,220)) (.c (decide (y2>=c.partitions.length)) (.r (none,220)) (.c (decide (y3<0)) (.r (none,220)) (.c (decide (y3>=1073741824)) (.r (none,220)) (.g (zN (y1.partition) c.partitions.length) <| .c (decide (((y1.words).length:Int)>(zb c.partitions ((y1.partition).toNat)).inputs)) (.r (none,220)) (.b (zgL (y1.words)) fun r4=>.b (znU (fun x:zR=>some ((y2==x.partition)&&((y3==x.epoch)&&true))) false (⟨y1.partition,y1.epoch⟩:zR) r4 x3) fun r5=>.j (.l4 (i64.wrap (x0+1)) x1 x2 r5)))))))) (.j (.l8 0 x1 x2 x3)) | .l8 x0 x1 x2 x3 =>let y1:=zA feeds x0.toNat;.g (decide (x0<feeds.length)) <| .g (zN x0 feeds.length) <| .c (((y1.words).length:Int)==0) (.b (zqc (fun x:zR=>some (((y1.partition:Int)==x.partition)&&(((y1.epoch:Int)==x.epoch)&&true))) x3) fun r6=>.j (.l61 x0 x1 x2 r6)) (.j (.l61 x0 x1 x2 x3)) | .l61 x0 x1 x2 x3=>.j (.l8 (i64.wrap (x0+1)) x1 x2 x3)
def zoj(c:za)(feeds:(List z6)):Tree zgT zio:=.c (decide ((feeds.length:Int)>4096)) (.r (none,2)) (.b (zdI c) fun r1=>.c (!((r1.1:Int)==0)) (.r (none,221)) (.b (zcZ c) fun r2=>.c (!((r2.2:Int)==0)) (.r (none,221)) (.j (.l0 r2 0 [] []))))
def zbY(c:za)(feeds:(List z6)):zgT->Option zio:=zan (ze0 c feeds)
theorem zfJ(c:za)(feeds:(List z6))(l:zgT):zbY c feeds l=(ze0 c feeds l).run (zbY c feeds):=zF _ l
def zef(c:za)(feeds:(List z6)):Option zio:=(zoj c feeds).run (zbY c feeds)
theorem zxy(c:za)(feeds:(List z6)):Oks 46 [.agg (Ty.enc .sConfig c),.sl .sFeed feeds] [] (zef c feeds) zB6:=zM GC7 (H:=zCv) zJ Tryz.func46 rfl (by kernel_rfl) (zBP c feeds) (fun J l=>by cases l <;> kernel_rfl) (fun J=>by kernel_rfl)
abbrev R49:=zaf × Int
def to49(r:R49):Ans:=⟨.tup [.ref 0 0,(zg r.2)],[.cells 213 [(zg r.1.frames),.own 1],.row 219 .sHealthWard [(4,3)] [] r.1.wards]⟩
inductive L49 where | l0 (v0:R47) (x0:Int) (x1:Nat) (x2:List zX)
def H49:zaa:=⟨fun n=>[].any (Nat.beq n),zgf [(0,⟨fgt [6,8,30,31,32] 65 0,[(.box 6 1,.low 4),(.box 8 1,.own 219 .sHealthWard)]⟩)],[(.slot 0,.fnc)],G0,(fun e=>match e with | 72=>[(6,138),(7,74)] | 136=>[(0,135)] | 140=>[(4,3)] | 189=>[(4,209)] | 219=>[(4,3)] | _=>[])⟩
def st49(c:za):L49->Nat × St | .l0 v0 x0 x1 x2=>(0,⟨mkE [(6,.ref 0 0),(8,.ref 3 0),(30,.sl .sPartition c.partitions),(31,(zg c.partitions.length)),(32,(zg x0))] 65 0,[.cells 104 [(zg v0.1.barrier),.own 1,.own 2,(zg v0.1.end_)],.row 140 .sPartitionPlace [(4,3)] [(x1,4,none)] v0.1.partitions,.row 189 .sChannelPlace [(4,209)] [] v0.1.channels,.cells 213 [(zg c.frames),.own 4],.row 219 .sHealthWard [(4,3)] [] x2],GL,0,[],(fun e=>match e with | 72=>[(6,138),(7,74)] | 136=>[(0,135)] | 140=>[(4,3)] | 189=>[(4,209)] | 219=>[(4,3)] | _=>[])⟩)
def zuI(c:za):L49->Tree L49 R49 | .l0 v0 x0 x1 x2 =>let y2:=zb c.partitions x0.toNat;let y1:=(⟨(zm v0.1.partitions x0.toNat),(u32.wrap (y2.entry)),(u32.wrap (y2.restarts)),(u32.wrap (y2.outputs)),(⟨(),()⟩:zay)⟩:zX);let y3:=(x2:List zX);.c (decide (x0<c.partitions.length)) (.g (zN x0 c.partitions.length) <| .g (zN x0 v0.1.partitions.length) <| .g ((Nat.ble x1 x0.toNat&&true)&&true) <| .g (leB ((y3.length+([y1]:List zX).length)*88) 140737488355328) <| .j (.l0 v0 (i64.wrap (x0+1)) (Nat.max (x0.toNat+1) (Nat.max x1 0)) (y3++[y1]))) (.r ((⟨c.frames,x2⟩:zaf),0))
def zEt(c:za):Tree L49 R49:=.b (zdI c) fun r1=>.c (!((r1.1:Int)==0)) (.n) (.b (zcZ c) fun r2=>.c (!((r2.2:Int)==0)) (.n) (.j (.l0 r2 0 0 [])))
def zsr(c:za):L49->Option R49:=zan (zuI c)
theorem zss(c:za)(l:L49):zsr c l=(zuI c l).run (zsr c):=zF _ l
def zgM(c:za):Option R49:=(zEt c).run (zsr c)
theorem zNg(c:za):Oks 49 [.agg (Ty.enc .sConfig c)] [] (zgM c) to49:=zM GC7 (H:=H49) zJ Tryz.func49 rfl (by kernel_rfl) (st49 c) (fun J l=>by cases l <;> kernel_rfl) (fun J=>by kernel_rfl)
abbrev ziq:=(Option zaf) × Int
def zB8(r:ziq):Ans:=⟨.tup [.v (.pointer none),(zg r.2)],[]⟩
inductive zim where | l0 (v0:R47) (x0:Int) (x1:Nat) (x2:List zX)
def zCx:zaa:=⟨fun n=>[].any (Nat.beq n),zgf [(0,⟨fgt [6,8,30,31,32] 65 0,[(.box 6 1,.low 4),(.box 8 1,.own 219 .sHealthWard)]⟩)],[(.slot 0,.nilp)],G0,(fun e=>match e with | 72=>[(6,138),(7,74)] | 136=>[(0,135)] | 140=>[(4,3)] | 189=>[(4,209)] | 219=>[(4,3)] | _=>[])⟩
def zBR(c:za):zim->Nat × St | .l0 v0 x0 x1 x2=>(0,⟨mkE [(6,.ref 0 0),(8,.ref 3 0),(30,.sl .sPartition c.partitions),(31,(zg c.partitions.length)),(32,(zg x0))] 65 0,[.cells 104 [(zg v0.1.barrier),.own 1,.own 2,(zg v0.1.end_)],.row 140 .sPartitionPlace [(4,3)] [(x1,4,none)] v0.1.partitions,.row 189 .sChannelPlace [(4,209)] [] v0.1.channels,.cells 213 [(zg c.frames),.own 4],.row 219 .sHealthWard [(4,3)] [] x2],GL,0,[],(fun e=>match e with | 72=>[(6,138),(7,74)] | 136=>[(0,135)] | 140=>[(4,3)] | 189=>[(4,209)] | 219=>[(4,3)] | _=>[])⟩)
def zw8(c:za):zim->Tree zim ziq | .l0 v0 x0 x1 x2 =>let y2:=zb c.partitions x0.toNat;let y1:=(⟨(zm v0.1.partitions x0.toNat),(u32.wrap (y2.entry)),(u32.wrap (y2.restarts)),(u32.wrap (y2.outputs)),(⟨(),()⟩:zay)⟩:zX);let y3:=(x2:List zX);.g (decide (x0<c.partitions.length)) <| .g (zN x0 c.partitions.length) <| .g (zN x0 v0.1.partitions.length) <| .g ((Nat.ble x1 x0.toNat&&true)&&true) <| .g (leB ((y3.length+([y1]:List zX).length)*88) 140737488355328) <| .j (.l0 v0 (i64.wrap (x0+1)) (Nat.max (x0.toNat+1) (Nat.max x1 0)) (y3++[y1]))
def zxh(c:za):Tree zim ziq:=.b (zdI c) fun r1=>.c (!((r1.1:Int)==0)) (.r (none,232)) (.b (zcZ c) fun r2=>.c (!((r2.2:Int)==0)) (.r (none,232)) (.j (.l0 r2 0 0 [])))
def zxV(c:za):zim->Option ziq:=zan (zw8 c)
def zci(c:za):Option ziq:=(zxh c).run (zxV c)
theorem zxA(c:za):Oks 49 [.agg (Ty.enc .sConfig c)] [] (zci c) zB8:=zM GC7 (H:=zCx) zJ Tryz.func49 rfl (by kernel_rfl) (zBR c) (fun J l=>by cases l <;> kernel_rfl) (fun J=>by kernel_rfl)
abbrev R48:=zH × Int
def to48(r:R48):Ans:=⟨.tup [.ref 0 0,(zg r.2)],[.cells 174 [(zg r.1.c.frames),(zg r.1.c.major),(zg r.1.c.kernel),(zg r.1.c.room),.own 1,.own 2,.own 3,(zg r.1.lay.barrier),.own 4,.own 5,(zg r.1.lay.end_)],.row 136 (.sl .sWindow) [(0,135)] [] r.1.c.cores,.row 72 .sPartition [(6,138),(7,74)] [] r.1.c.partitions,.arr 76 .sChannel r.1.c.channels,.row 140 .sPartitionPlace [(4,3)] [] r.1.lay.partitions,.row 189 .sChannelPlace [(4,209)] [] r.1.lay.channels]⟩
inductive L48 where | l0 (v0:R47) (x0:Int) (x1:List zf)
def H48:zaa:=⟨fun n=>[].any (Nat.beq n),zgf [(0,⟨fgt [6,8,35,36,37] 55 0,[(.box 8 5,.own 72 .sPartition)]⟩)],[(.slot 0,.fnc),(.box 0 4,.own 136 (.sl .sWindow))],G0,(fun e=>match e with | 72=>[(6,138),(7,74)] | 136=>[(0,135)] | 140=>[(4,3)] | 189=>[(4,209)] | _=>[])⟩
def st48(c:za):L48->Nat × St | .l0 v0 x0 x1=>(0,⟨mkE [(6,.ref 0 0),(8,.ref 3 0),(35,.sl .sPartition c.partitions),(36,(zg c.partitions.length)),(37,(zg x0))] 55 0,[.cells 104 [(zg v0.1.barrier),.own 1,.own 2,(zg v0.1.end_)],.row 140 .sPartitionPlace [(4,3)] [] v0.1.partitions,.row 189 .sChannelPlace [(4,209)] [] v0.1.channels,.cells 26 [(zg c.frames),(zg 0),(zg 0),(zg 0),.v (.slice none 0 0),.own 4,.own 5],.row 72 .sPartition [(6,138),(7,74)] [] x1,.arr 76 .sChannel (([]:List zI)++c.channels)],GL,0,[],(fun e=>match e with | 72=>[(6,138),(7,74)] | 136=>[(0,135)] | 140=>[(4,3)] | 189=>[(4,209)] | _=>[])⟩)
def zuH(c:za):L48->Tree L48 R48 | .l0 v0 x0 x1 =>let y2:=zb c.partitions x0.toNat;let y1:=(⟨(ByteArray.mk #[]),0,0,0,0,0,[],(([]:List zb9)++y2.ports)⟩:zf);let y3:=(x1:List zf);.c (decide (x0<c.partitions.length)) (.g (zN x0 c.partitions.length) <| .g (leB ((([]:List zb9).length+(y2.ports:List zb9).length)*16) 140737488355328) <| .g (leB ((y3.length+([y1]:List zf).length)*104) 140737488355328) <| .j (.l0 v0 (i64.wrap (x0+1)) (y3++[y1]))) (.r ((⟨(⟨c.frames,0,0,0,[],x1,(([]:List zI)++c.channels)⟩:za),v0.1⟩:zH),0))
def zEs(c:za):Tree L48 R48:=.b (zdI c) fun r1=>.c (!((r1.1:Int)==0)) (.n) (.b (zcZ c) fun r2=>.c (!((r2.2:Int)==0)) (.n) (.g (leB ((([]:List zI).length+(c.channels:List zI).length)*24) 140737488355328) <| .j (.l0 r2 0 [])))
def zsp(c:za):L48->Option R48:=zan (zuH c)
theorem zsq(c:za)(l:L48):zsp c l=(zuH c l).run (zsp c):=zF _ l
def znv(c:za):Option R48:=(zEs c).run (zsp c)
theorem zNf(c:za):Oks 48 [.agg (Ty.enc .sConfig c)] [] (znv c) to48:=zM GC7 (H:=H48) zJ Tryz.func48 rfl (by kernel_rfl) (st48 c) (fun J l=>by cases l <;> kernel_rfl) (fun J=>by kernel_rfl)
abbrev zip:=(Option zH) × Int
def zB7(r:zip):Ans:=⟨.tup [.v (.pointer none),(zg r.2)],[]⟩
inductive zil where | l0 (v0:R47) (x0:Int) (x1:List zf)
def zCw:zaa:=⟨fun n=>[].any (Nat.beq n),zgf [(0,⟨fgt [6,8,35,36,37] 55 0,[(.box 8 5,.own 72 .sPartition)]⟩)],[(.slot 0,.nilp)],G0,(fun e=>match e with | 72=>[(6,138),(7,74)] | 136=>[(0,135)] | 140=>[(4,3)] | 189=>[(4,209)] | _=>[])⟩
def zBQ(c:za):zil->Nat × St | .l0 v0 x0 x1=>(0,⟨mkE [(6,.ref 0 0),(8,.ref 3 0),(35,.sl .sPartition c.partitions),(36,(zg c.partitions.length)),(37,(zg x0))] 55 0,[.cells 104 [(zg v0.1.barrier),.own 1,.own 2,(zg v0.1.end_)],.row 140 .sPartitionPlace [(4,3)] [] v0.1.partitions,.row 189 .sChannelPlace [(4,209)] [] v0.1.channels,.cells 26 [(zg c.frames),(zg 0),(zg 0),(zg 0),.v (.slice none 0 0),.own 4,.own 5],.row 72 .sPartition [(6,138),(7,74)] [] x1,.arr 76 .sChannel (([]:List zI)++c.channels)],GL,0,[],(fun e=>match e with | 72=>[(6,138),(7,74)] | 136=>[(0,135)] | 140=>[(4,3)] | 189=>[(4,209)] | _=>[])⟩)
def zw7(c:za):zil->Tree zil zip | .l0 v0 x0 x1 =>let y2:=zb c.partitions x0.toNat;let y1:=(⟨(ByteArray.mk #[]),0,0,0,0,0,[],(([]:List zb9)++y2.ports)⟩:zf);let y3:=(x1:List zf);.g (decide (x0<c.partitions.length)) <| .g (zN x0 c.partitions.length) <| .g (leB ((([]:List zb9).length+(y2.ports:List zb9).length)*16) 140737488355328) <| .g (leB ((y3.length+([y1]:List zf).length)*104) 140737488355328) <| .j (.l0 v0 (i64.wrap (x0+1)) (y3++[y1]))
def zxg(c:za):Tree zil zip:=.b (zdI c) fun r1=>.c (!((r1.1:Int)==0)) (.r (none,210)) (.b (zcZ c) fun r2=>.c (!((r2.2:Int)==0)) (.r (none,210)) (.g (leB ((([]:List zI).length+(c.channels:List zI).length)*24) 140737488355328) <| .j (.l0 r2 0 [])))
def zxU(c:za):zil->Option zip:=zan (zw7 c)
def zfm(c:za):Option zip:=(zxg c).run (zxU c)
theorem zxz(c:za):Oks 48 [.agg (Ty.enc .sConfig c)] [] (zfm c) zB7:=zM GC7 (H:=zCw) zJ Tryz.func48 rfl (by kernel_rfl) (zBQ c) (fun J l=>by cases l <;> kernel_rfl) (fun J=>by kernel_rfl)
abbrev R27:=(Option zaU) × Int
def to27(r:R27):Ans:=⟨.tup [.op .sBulkheadref25Calls r.1,(zg r.2)],[]⟩
def H27:zaa:=⟨fun _=>false,fun _=>⟨[],[]⟩,[(.slot 0,.op .sBulkheadref25Calls)],G0,zO⟩
def znp(c:za)(feeds:(List z6)):Option R27:=Tree.run0 <|
 .c (decide ((feeds.length:Int)>4096))
 (.r (none,2))
 (.b (zfp c) fun r1=>
 .c (!((r1.1:Int)==0))
 (.r (none,250))
 (.b (zgN c) fun r3=>
 .b (zvO c) fun r5=>
 .b (zvP c) fun r7=>
 .b (zvQ c feeds) fun r9=>
 .c (!((r9.2:Int)==0))
 (.r (none,220))
 (.r ((some (⟨c,r3.1,r5.1,r9.1,r7.1⟩:zaU)),0))))
theorem zMX(c:za)(feeds:(List z6)):Oks 27 [.agg (Ty.enc .sConfig c),.sl .sFeed feeds] [] (znp c feeds) to27:=zL GC7 (H:=H27) zJ Tryz.func27 rfl (by kernel_rfl) (fun J=>by kernel_rfl)
abbrev R37:=Unit
def to37(r:R37):Ans:=⟨.agg [.fn (.func 62) [] [],.fn (.func 63) [] [],.fn (.func 64) [] [],.fn (.func 65) [] [],.fn (.func 66) [] [],.fn (.func 67) [] [],.fn (.func 68) [] [],.fn (.func 69) [] []],[]⟩
def sp37:R37:=()
theorem zM7:Oks 37 [] [] (some (sp37)) to37:=zbh GC7 (H:=H0) zJ Tryz.func37 rfl (by kernel_rfl) (fun J=>by kernel_rfl)
def k27:Fk 27:=aF (aS .sConfig fun a0=>aL (.sl .sFeed) fun a1=>aE (zMX a0 a1))
def k37:Fk 37:=aF (aE (zM7))
def k46:Fk 46:=aF (aS .sConfig fun a0=>aL (.sl .sFeed) fun a1=>aE (zNd a0 a1))
def zDc:Fk 46:=aF (aS .sConfig fun a0=>aL (.sl .sFeed) fun a1=>aE (zxy a0 a1))
def k48:Fk 48:=aF (aS .sConfig fun a0=>aE (zNf a0))
def zDd:Fk 48:=aF (aS .sConfig fun a0=>aE (zxz a0))
def k49:Fk 49:=aF (aS .sConfig fun a0=>aE (zNg a0))
def zDe:Fk 49:=aF (aS .sConfig fun a0=>aE (zxA a0))
def GC8:GK:=zC5 [⟨46,zDc⟩,⟨48,zDd⟩,⟨49,zDe⟩] (zlj [⟨27,k27⟩,⟨37,k37⟩,⟨46,k46⟩,⟨48,k48⟩,⟨49,k49⟩] GC7)
abbrev R12:=zB × Int × Bool × Int × ze
def to12(r:R12):Ans:=⟨.tup [.agg [(zr r.1.regs.e0),(zr r.1.regs.e1),(zr r.1.regs.e2),(zr r.1.regs.e3),(zr r.1.regs.e4),(zr r.1.regs.e5),(zr r.1.regs.e6),(zr r.1.regs.e7),(zr r.1.regs.e8),(zr r.1.regs.e9),(zr r.1.regs.e10),(zr r.1.regs.e11),(zr r.1.regs.e12),(zr r.1.regs.e13),(zr r.1.regs.e14),(zr r.1.regs.e15),(zr r.1.pC)],(zr r.2.1),(avB r.2.2.1),(zg r.2.2.2.1)],[.cells 112 [.own 1],.arr 46 (.i .u32) r.2.2.2.2.words]⟩
inductive L12 where | l31 (x0:Int) (x1:Bool) (x2:List Int) (x3:Int) (x4:Int) (x5:Int)
def H12:zaa:=htt [15] [(31,⟨fgt [11,12,18,20,21] 96 0,[]⟩)] []
def st12(s:(Option zq))(p:Int)(epoch:Int)(call_:Int)(x:zB)(ws:List Int):L12->Nat × St | .l31 x0 x1 x2 x3 x4 x5=>(31,⟨mkE [(11,.ref 2 0),(12,.ref 3 0),(18,.ref 4 0),(20,(zr x0)),(21,(avB x1))] 96 0,[.cells 112 [.own 1],.arr 46 (.i .u32) x2,.cells 57 (Ty.enc .sContext x),.cells 57 [(zr 0),(zr 0),(zr 0),(zr 0),(zr 0),(zr 0),(zr 0),(zr 0),(zr 0),(zr 0),(zr 0),(zr 0),(zr 0),(zr 0),(zr 0),(zr 0),(zr 0)],.cells 118 [(zr x3),(zr x4),(zr x5)]],GL,2,[],zO⟩)
def zzb(s:(Option zq))(p:Int)(epoch:Int)(call_:Int)(x:zB)(ws:List Int):L12->Tree L12 R12 | .l31 x0 x1 x2 x3 x4 x5=>.g (zN 1 16) <| .g (zN 2 16) <| .g (zN 3 16) <| .r ((⟨(⟨x.regs.e0,x3,x4,x5,x.regs.e4,x.regs.e5,x.regs.e6,x.regs.e7,x.regs.e8,x.regs.e9,x.regs.e10,x.regs.e11,x.regs.e12,x.regs.e13,x.regs.e14,x.regs.e15⟩:zZ),x.pC⟩:zB),x0,x1,0,(⟨x2⟩:ze))
def zEe(s:(Option zq))(p:Int)(epoch:Int)(call_:Int)(x:zB)(ws:List Int):Tree L12 R12:=.c s.isNone (.r ((⟨(⟨0,0,0,0,0,0,0,0,0,0,0,0,0,0,0,0⟩:zZ),0⟩:zB),0,false,3,(⟨ws⟩:ze))) (.b (zdH (some (⟨ws⟩:ze))) fun r1=>.g s.isSome <| .c (!((r1:Int)==(s.getD default).frames)) (.r ((⟨(⟨0,0,0,0,0,0,0,0,0,0,0,0,0,0,0,0⟩:zZ),0⟩:zB),0,false,250,(⟨ws⟩:ze))) (.b (zpf s p call_) fun r2=>.c (!((r2:Int)==0)) (.r ((⟨(⟨0,0,0,0,0,0,0,0,0,0,0,0,0,0,0,0⟩:zZ),0⟩:zB),0,false,251,(⟨ws⟩:ze))) (.c (decide ((epoch:Int)<0)) (.r ((⟨(⟨0,0,0,0,0,0,0,0,0,0,0,0,0,0,0,0⟩:zZ),0⟩:zB),0,false,251,(⟨ws⟩:ze))) (.c (decide ((epoch:Int)>=1073741824)) (.r ((⟨(⟨0,0,0,0,0,0,0,0,0,0,0,0,0,0,0,0⟩:zZ),0⟩:zB),0,false,251,(⟨ws⟩:ze))) (.g (zN call_ 8) <| .c (Nat.beq call_.toNat 0) (.b (zsP s p epoch x ws) fun r3=>.c (!((r3.2.1:Int)==0)) (.r ((⟨(⟨0,0,0,0,0,0,0,0,0,0,0,0,0,0,0,0⟩:zZ),0⟩:zB),0,false,r3.2.1,(r3.2.2.m.getD default))) (.c ((call_:Int)==5) (.c ((r3.1.one:Int)==0) (.g (zN 1 16) <| .j (.l31 x.regs.e1 true ((r3.2.2.m.getD default).words) r3.1.one r3.1.two r3.1.three)) (.j (.l31 0 false ((r3.2.2.m.getD default).words) r3.1.one r3.1.two r3.1.three))) (.j (.l31 0 false ((r3.2.2.m.getD default).words) r3.1.one r3.1.two r3.1.three)))) (.c (Nat.beq call_.toNat 1) (.b (zsQ s p epoch x ws) fun r4=>.c (!((r4.2.1:Int)==0)) (.r ((⟨(⟨0,0,0,0,0,0,0,0,0,0,0,0,0,0,0,0⟩:zZ),0⟩:zB),0,false,r4.2.1,(r4.2.2.m.getD default))) (.c ((call_:Int)==5) (.c ((r4.1.one:Int)==0) (.g (zN 1 16) <| .j (.l31 x.regs.e1 true ((r4.2.2.m.getD default).words) r4.1.one r4.1.two r4.1.three)) (.j (.l31 0 false ((r4.2.2.m.getD default).words) r4.1.one r4.1.two r4.1.three))) (.j (.l31 0 false ((r4.2.2.m.getD default).words) r4.1.one r4.1.two r4.1.three)))) (.c (Nat.beq call_.toNat 2) (.b (zsR s p epoch x ws) fun r5=>.c (!((r5.2.1:Int)==0)) (.r ((⟨(⟨0,0,0,0,0,0,0,0,0,0,0,0,0,0,0,0⟩:zZ),0⟩:zB),0,false,r5.2.1,(r5.2.2.m.getD default))) (.c ((call_:Int)==5) (.c ((r5.1.one:Int)==0) (.g (zN 1 16) <| .j (.l31 x.regs.e1 true ((r5.2.2.m.getD default).words) r5.1.one r5.1.two r5.1.three)) (.j (.l31 0 false ((r5.2.2.m.getD default).words) r5.1.one r5.1.two r5.1.three))) (.j (.l31 0 false ((r5.2.2.m.getD default).words) r5.1.one r5.1.two r5.1.three)))) (.c (Nat.beq call_.toNat 3) (.b (zsS s p epoch x ws) fun r6=>.c (!((r6.2.1:Int)==0)) (.r ((⟨(⟨0,0,0,0,0,0,0,0,0,0,0,0,0,0,0,0⟩:zZ),0⟩:zB),0,false,r6.2.1,(r6.2.2.m.getD default))) (.c ((call_:Int)==5) (.c ((r6.1.one:Int)==0) (.g (zN 1 16) <| .j (.l31 x.regs.e1 true ((r6.2.2.m.getD default).words) r6.1.one r6.1.two r6.1.three)) (.j (.l31 0 false ((r6.2.2.m.getD default).words) r6.1.one r6.1.two r6.1.three))) (.j (.l31 0 false ((r6.2.2.m.getD default).words) r6.1.one r6.1.two r6.1.three)))) (.c (Nat.beq call_.toNat 4) (.b (zsT s p epoch x ws) fun r7=>.c (!((r7.2.1:Int)==0)) (.r ((⟨(⟨0,0,0,0,0,0,0,0,0,0,0,0,0,0,0,0⟩:zZ),0⟩:zB),0,false,r7.2.1,(r7.2.2.m.getD default))) (.c ((call_:Int)==5) (.c ((r7.1.one:Int)==0) (.g (zN 1 16) <| .j (.l31 x.regs.e1 true ((r7.2.2.m.getD default).words) r7.1.one r7.1.two r7.1.three)) (.j (.l31 0 false ((r7.2.2.m.getD default).words) r7.1.one r7.1.two r7.1.three))) (.j (.l31 0 false ((r7.2.2.m.getD default).words) r7.1.one r7.1.two r7.1.three)))) (.c (Nat.beq call_.toNat 5) (.b (zsU s p epoch x ws) fun r8=>.c (!((r8.2.1:Int)==0)) (.r ((⟨(⟨0,0,0,0,0,0,0,0,0,0,0,0,0,0,0,0⟩:zZ),0⟩:zB),0,false,r8.2.1,(r8.2.2.m.getD default))) (.c ((call_:Int)==5) (.c ((r8.1.one:Int)==0) (.g (zN 1 16) <| .j (.l31 x.regs.e1 true ((r8.2.2.m.getD default).words) r8.1.one r8.1.two r8.1.three)) (.j (.l31 0 false ((r8.2.2.m.getD default).words) r8.1.one r8.1.two r8.1.three))) (.j (.l31 0 false ((r8.2.2.m.getD default).words) r8.1.one r8.1.two r8.1.three)))) (.c (Nat.beq call_.toNat 6) (.c (!(((zfd s p epoch x ws).2.1:Int)==0)) (.r ((⟨(⟨0,0,0,0,0,0,0,0,0,0,0,0,0,0,0,0⟩:zZ),0⟩:zB),0,false,(zfd s p epoch x ws).2.1,((zfd s p epoch x ws).2.2.m.getD default))) (.c ((call_:Int)==5) (.c (((zfd s p epoch x ws).1.one:Int)==0) (.g (zN 1 16) <| .j (.l31 x.regs.e1 true (((zfd s p epoch x ws).2.2.m.getD default).words) ((zfd s p epoch x ws).1.one) ((zfd s p epoch x ws).1.two) ((zfd s p epoch x ws).1.three))) (.j (.l31 0 false (((zfd s p epoch x ws).2.2.m.getD default).words) ((zfd s p epoch x ws).1.one) ((zfd s p epoch x ws).1.two) ((zfd s p epoch x ws).1.three)))) (.j (.l31 0 false (((zfd s p epoch x ws).2.2.m.getD default).words) ((zfd s p epoch x ws).1.one) ((zfd s p epoch x ws).1.two) ((zfd s p epoch x ws).1.three))))) (.g (Nat.beq call_.toNat 7) <| .b (zsV s p epoch x ws) fun r9=>.c (!((r9.2.1:Int)==0)) (.r ((⟨(⟨0,0,0,0,0,0,0,0,0,0,0,0,0,0,0,0⟩:zZ),0⟩:zB),0,false,r9.2.1,(r9.2.2.m.getD default))) (.c ((call_:Int)==5) (.c ((r9.1.one:Int)==0) (.g (zN 1 16) <| .j (.l31 x.regs.e1 true ((r9.2.2.m.getD default).words) r9.1.one r9.1.two r9.1.three)) (.j (.l31 0 false ((r9.2.2.m.getD default).words) r9.1.one r9.1.two r9.1.three))) (.j (.l31 0 false ((r9.2.2.m.getD default).words) r9.1.one r9.1.two r9.1.three)))))))))))))))
def zvC(s:(Option zq))(p:Int)(epoch:Int)(call_:Int)(x:zB)(ws:List Int):L12->Option R12:=zan (zzb s p epoch call_ x ws)
theorem zBE(s:(Option zq))(p:Int)(epoch:Int)(call_:Int)(x:zB)(ws:List Int)(l:L12):zvC s p epoch call_ x ws l=(zzb s p epoch call_ x ws l).run (zvC s p epoch call_ x ws):=zF _ l
def zfn(s:(Option zq))(p:Int)(epoch:Int)(call_:Int)(x:zB)(ws:List Int):Option R12:=(zEe s p epoch call_ x ws).run (zvC s p epoch call_ x ws)
theorem zMN(s:(Option zq))(p:Int)(epoch:Int)(call_:Int)(x:zB)(ws:List Int):Oks 12 [.op .sCallsCalls s,.ref 0 0,(zg p),(zg epoch),(zg call_),.agg (Ty.enc .sContext x)] [.cells 112 [.own 1],.arr 46 (.i .u32) ws] (zfn s p epoch call_ x ws) to12:=zM GC8 (H:=H12) zJ Tryz.func12 rfl (by kernel_rfl) (st12 s p epoch call_ x ws) (fun J l=>by cases l <;> kernel_rfl) (fun J=>by kernel_rfl)
abbrev R26:=zq × Int
def to26(r:R26):Ans:=⟨.tup [.ref 0 0,(zg r.2)],[.cells 109 [(zg r.1.frames),(zg r.1.lay.barrier),.own 1,.own 2,(zg r.1.lay.end_),.ref 3 0,.ref 9 0,.ref 13 0],.row 140 .sPartitionPlace [(4,3)] [] r.1.lay.partitions,.row 189 .sChannelPlace [(4,209)] [] r.1.lay.channels,.cells 174 [(zg ((r.1.ducts.getD default).c.frames)),(zg ((r.1.ducts.getD default).c.major)),(zg ((r.1.ducts.getD default).c.kernel)),(zg ((r.1.ducts.getD default).c.room)),.own 4,.own 5,.own 6,(zg ((r.1.ducts.getD default).lay.barrier)),.own 7,.own 8,(zg ((r.1.ducts.getD default).lay.end_))],.row 136 (.sl .sWindow) [(0,135)] [] ((r.1.ducts.getD default).c.cores),.row 72 .sPartition [(6,138),(7,74)] [] ((r.1.ducts.getD default).c.partitions),.arr 76 .sChannel ((r.1.ducts.getD default).c.channels),.row 140 .sPartitionPlace [(4,3)] [] ((r.1.ducts.getD default).lay.partitions),.row 189 .sChannelPlace [(4,209)] [] ((r.1.ducts.getD default).lay.channels),.cells 197 [(zg ((r.1.devices.getD default).frames)),.own 10,.own 11,.om 12],.arr 3 (.i .i64) ((r.1.devices.getD default).outs),.arr 3 (.i .i64) ((r.1.devices.getD default).at_),.map .sDeviceWhen (.sl (.i .u32)) [(0,46)] ((r.1.devices.getD default).feeds),.cells 213 [(zg ((r.1.wards.getD default).frames)),.own 14],.row 219 .sHealthWard [(4,3)] [] ((r.1.wards.getD default).wards)]⟩
def H26:zaa:=⟨fun _=>false,fun _=>⟨[],[]⟩,[(.slot 0,.fnc),(.box 0 5,.fnc),(.box 0 6,.fnc),(.box 0 7,.fnc)],G0,(fun e=>match e with | 72=>[(6,138),(7,74)] | 136=>[(0,135)] | 140=>[(4,3)] | 189=>[(4,209)] | 195=>[(0,46)] | 219=>[(4,3)] | _=>[])⟩
def zjm(c:za)(feeds:(List z6)):Option R26:=Tree.run0 <|
 .c (decide ((feeds.length:Int)>4096))
 (.n)
 (.b (zdI c) fun r1=>
 .c (!((r1.1:Int)==0))
 (.n)
 (.o (znu c feeds) (fun r2=>
 .c (!((r2.2:Int)==0))
 (.n)
 (.b (zcZ c) fun r3=>
 .o (znv c) (fun r4=>
 .o (zgM c) (fun r5=>
 .c (!((r3.2:Int)==0))
 (.n)
 (.c (!((r4.2:Int)==0))
 (.n)
 (.c (!((r5.2:Int)==0))
 (.n)
 (.r ((⟨c.frames,r3.1,(some r4.1),(some r2.1),(some r5.1)⟩:zq),0)))))
 (.b (zci c) fun r6=>
 .c (!((r3.2:Int)==0))
 (.n)
 (.c (!((r4.2:Int)==0))
 (.n)
 (.g (!((r6.2:Int)==0)) <|
 .n))))
 (.b (zfm c) fun r7=>
 .o (zgM c) (fun r8=>
 .c (!((r3.2:Int)==0))
 (.n)
 (.c (!((r7.2:Int)==0))
 (.n)
 (.g (!((r8.2:Int)==0)) <|
 .n)))
 (.b (zci c) fun r9=>
 .c (!((r3.2:Int)==0))
 (.n)
 (.c (!((r7.2:Int)==0))
 (.n)
 (.g (!((r9.2:Int)==0)) <|
 .n))))))
 (.b (zef c feeds) fun r10=>
 .c (!((r10.2:Int)==0))
 (.n)
 (.b (zcZ c) fun r11=>
 .o (znv c) (fun r12=>
 .o (zgM c) (fun r13=>
 .c (!((r11.2:Int)==0))
 (.n)
 (.c (!((r12.2:Int)==0))
 (.n)
 (.g (!((r13.2:Int)==0)) <|
 .n)))
 (.b (zci c) fun r14=>
 .c (!((r11.2:Int)==0))
 (.n)
 (.c (!((r12.2:Int)==0))
 (.n)
 (.g (!((r14.2:Int)==0)) <|
 .n))))
 (.b (zfm c) fun r15=>
 .o (zgM c) (fun r16=>
 .c (!((r11.2:Int)==0))
 (.n)
 (.c (!((r15.2:Int)==0))
 (.n)
 (.g (!((r16.2:Int)==0)) <|
 .n)))
 (.b (zci c) fun r17=>
 .c (!((r11.2:Int)==0))
 (.n)
 (.c (!((r15.2:Int)==0))
 (.n)
 (.g (!((r17.2:Int)==0)) <|
 .n))))))))
theorem zMW(c:za)(feeds:(List z6)):Oks 26 [.agg (Ty.enc .sConfig c),.sl .sFeed feeds] [] (zjm c feeds) to26:=zL GC8 (H:=H26) zJ Tryz.func26 rfl (by kernel_rfl) (fun J=>by kernel_rfl)
abbrev zux:=(Option zq) × Int
def zB5(r:zux):Ans:=⟨.tup [.v (.pointer none),(zg r.2)],[]⟩
def zCu:zaa:=⟨fun _=>false,fun _=>⟨[],[]⟩,[(.slot 0,.nilp)],G0,(fun e=>match e with | 72=>[(6,138),(7,74)] | 136=>[(0,135)] | 140=>[(4,3)] | 189=>[(4,209)] | 195=>[(0,46)] | 219=>[(4,3)] | _=>[])⟩
def zdi(c:za)(feeds:(List z6)):Option zux:=Tree.run0 <|
 .c (decide ((feeds.length:Int)>4096))
 (.r (none,2))
 (.b (zdI c) fun r1=>
 .c (!((r1.1:Int)==0))
 (.r (none,250))
 (.o (znu c feeds) (fun r2=>
 .c (!((r2.2:Int)==0))
 (.r (none,r2.2))
 (.b (zcZ c) fun r3=>
 .o (znv c) (fun r4=>
 .o (zgM c) (fun r5=>
 .c (!((r3.2:Int)==0))
 (.r (none,250))
 (.c (!((r4.2:Int)==0))
 (.r (none,250))
 (.g (!((r5.2:Int)==0)) <|
 .r (none,250))))
 (.b (zci c) fun r6=>
 .c (!((r3.2:Int)==0))
 (.r (none,250))
 (.c (!((r4.2:Int)==0))
 (.r (none,250))
 (.g (!((r6.2:Int)==0)) <|
 .r (none,250)))))
 (.b (zfm c) fun r7=>
 .o (zgM c) (fun r8=>
 .c (!((r3.2:Int)==0))
 (.r (none,250))
 (.c (!((r7.2:Int)==0))
 (.r (none,250))
 (.g (!((r8.2:Int)==0)) <|
 .r (none,250))))
 (.b (zci c) fun r9=>
 .c (!((r3.2:Int)==0))
 (.r (none,250))
 (.c (!((r7.2:Int)==0))
 (.r (none,250))
 (.g (!((r9.2:Int)==0)) <|
 .r (none,250)))))))
 (.b (zef c feeds) fun r10=>
 .c (!((r10.2:Int)==0))
 (.r (none,r10.2))
 (.b (zcZ c) fun r11=>
 .o (znv c) (fun r12=>
 .o (zgM c) (fun r13=>
 .c (!((r11.2:Int)==0))
 (.r (none,250))
 (.c (!((r12.2:Int)==0))
 (.r (none,250))
 (.g (!((r13.2:Int)==0)) <|
 .r (none,250))))
 (.b (zci c) fun r14=>
 .c (!((r11.2:Int)==0))
 (.r (none,250))
 (.c (!((r12.2:Int)==0))
 (.r (none,250))
 (.g (!((r14.2:Int)==0)) <|
 .r (none,250)))))
 (.b (zfm c) fun r15=>
 .o (zgM c) (fun r16=>
 .c (!((r11.2:Int)==0))
 (.r (none,250))
 (.c (!((r15.2:Int)==0))
 (.r (none,250))
 (.g (!((r16.2:Int)==0)) <|
 .r (none,250))))
 (.b (zci c) fun r17=>
 .c (!((r11.2:Int)==0))
 (.r (none,250))
 (.c (!((r15.2:Int)==0))
 (.r (none,250))
 (.g (!((r17.2:Int)==0)) <|
 .r (none,250)))))))))
theorem zxx(c:za)(feeds:(List z6)):Oks 26 [.agg (Ty.enc .sConfig c),.sl .sFeed feeds] [] (zdi c feeds) zB5:=zL GC8 (H:=zCu) zJ Tryz.func26 rfl (by kernel_rfl) (fun J=>by kernel_rfl)
def g12(args:List AV)(hp:List Blk):Option Rsp:=
 match args,hp with
 | [a0,.ref 0 0,a2,a3,a4,a5],[.cells 112 [.own 1],.arr 46 (.i .u32) y0]=>(rdL (.p .sCallsCalls) a0).bind fun b0=>(rdL (.i .i64) a2).bind fun b2=>(rdL (.i .i64) a3).bind fun b3=>(rdL (.i .i64) a4).bind fun b4=>(rdS .sContext a5).bind fun b5=>some ⟨R12,(zfn b0 b2 b3 b4 b5 y0),to12,default⟩
 | _,_=>none
def k12:Fk 12:=⟨g12,fun args hp y h x hx=>by
 unfold g12 at h
 split at h
 . simp only[Option.bind_eq_some_iff]at h
   obtain ⟨b0,h0,b2,h2,b3,h3,b4,h4,b5,h5,h⟩:=h
   cases h;exact(zMN b0 b2 b3 b4 b5 _).ats (.cons (z8 h0) (.cons (fun _ _ _ _ h=>h) (.cons (z8 h2) (.cons (z8 h3) (.cons (z8 h4) (.cons (zct h5) .nil)))))) hx
 . cases h⟩
def k26:Fk 26:=aF (aS .sConfig fun a0=>aL (.sl .sFeed) fun a1=>aE (zMW a0 a1))
def zDb:Fk 26:=aF (aS .sConfig fun a0=>aL (.sl .sFeed) fun a1=>aE (zxx a0 a1))
def GC9:GK:=zC5 [⟨26,zDb⟩] (zlj [⟨12,k12⟩,⟨26,k26⟩] GC8)
abbrev R8:=zQ × Bool
def to8(r:R8):Ans:=⟨.tup [.ref 0 0,(avB r.2)],[.cells 45 [(zg r.1.c.frames),(zg r.1.c.major),(zg r.1.c.kernel),(zg r.1.c.room),.sl (.sl .sWindow) r.1.c.cores,.sl .sPartition r.1.c.partitions,.sl .sChannel r.1.c.channels,.op .sCallsCalls r.1.s,.op .sBulkheadref25Calls r.1.r,.ref 1 0,.op .sBulkheadref05Memory r.1.n,.op .sMemMemory r.1.p,.op .sBulkheadref05Memory r.1.q,.sl .sBulkheadlaw25KeptInts r.1.kept.ints],.cells 112 [.own 2],.arr 46 (.i .u32) ((r.1.m.getD default).words)]⟩
inductive L8 where | l33 (v0:R30) (v1:R27) (x0:Option zq)
def H8:zaa:=⟨fun n=>[16].any (Nat.beq n),zgf [(33,⟨fgt [4,11] 154 0,[(.box 4 7,.op .sCallsCalls)]⟩)],[(.box 0 7,.op .sCallsCalls),(.box 0 8,.op .sBulkheadref25Calls),(.box 0 9,.fnc),(.box 0 10,.op .sBulkheadref05Memory),(.box 0 11,.op .sMemMemory),(.box 0 12,.op .sBulkheadref05Memory),(.box 0 13,.sl .sBulkheadlaw25KeptInts)],G0,(fun e=>match e with | 72=>[(6,138),(7,74)] | 85=>[(2,46)] | 136=>[(0,135)] | 140=>[(4,3)] | 189=>[(4,209)] | 195=>[(0,46)] | 219=>[(4,3)] | _=>[])⟩
def st8(x:zo):L8->Nat × St | .l33 v0 v1 x0=>(33,⟨mkE [(4,.ref 0 0),(11,.sl (.i .u32) v0.1)] 154 0,[.cells 45 [(zg x.config.frames),(zg x.config.major),(zg x.config.kernel),(zg x.config.room),.sl (.sl .sWindow) x.config.cores,.sl .sPartition x.config.partitions,.sl .sChannel x.config.channels,.op .sCallsCalls x0,.op .sBulkheadref25Calls v1.1,.v (.pointer none),.v (.pointer none),.v (.pointer none),.v (.pointer none),.v (.slice none 0 0)]],GL,0,[],(fun e=>match e with | 72=>[(6,138),(7,74)] | 85=>[(2,46)] | 136=>[(0,135)] | 140=>[(4,3)] | 189=>[(4,209)] | 195=>[(0,46)] | 219=>[(4,3)] | _=>[])⟩)
def zGy(x:zo):L8->Tree L8 R8 | .l33 v0 v1 x0 =>let y1:=(⟨[]⟩:zav);.b (znq v0.1) fun r21=>.b (znr v0.1) fun r23=>.b (znq v0.1) fun r24=>.b (znr v0.1) fun r26=>.c ((r21.2:Int)==0) (.c ((r23.2:Int)==0) (.r ((⟨x.config,x0,v1.1,(some r21.1),r23.1,(some r24.1),r26.1,y1⟩:zQ),true)) (.r ((⟨x.config,x0,v1.1,(some r21.1),r23.1,(some r24.1),r26.1,y1⟩:zQ),false))) (.r ((⟨x.config,x0,v1.1,(some r21.1),r23.1,(some r24.1),r26.1,y1⟩:zQ),false))
def zGV(x:zo):Tree L8 R8:=.b (zsK x.config) fun r1=>.b (zsL x.feeds) fun r2=>.o (zjm r1 r2) (fun r3=>.b (znp x.config x.feeds) fun r5=>.b (zlb r1.frames r1.major r1.kernel r1.room x.config r1.cores r1.partitions r1.channels) fun r6=>.b (zlc x.feeds r2) fun r7=>.c (!r6.1) (.n) (.c (!r7.1) (.n) (.c (!((r3.2:Int)==r5.2)) (.n) (.c (!(false==r5.1.isNone)) (.n) (.c r5.1.isNone (.n) (.b (zfX x.config x.programs) fun r9=>.c (!((r9.2.1:Int)==0)) (.b (zfX x.config []) fun r11=>.j (.l33 r11 r5 (some (⟨r3.1.frames,r3.1.lay,(some (r3.1.ducts.getD default)),(some (r3.1.devices.getD default)),(some (r3.1.wards.getD default))⟩:zq)))) (.j (.l33 r9 r5 (some (⟨r3.1.frames,r3.1.lay,(some (r3.1.ducts.getD default)),(some (r3.1.devices.getD default)),(some (r3.1.wards.getD default))⟩:zq)))))))))) (.b (zdi r1 r2) fun r12=>.b (znp x.config x.feeds) fun r14=>.b (zlb r1.frames r1.major r1.kernel r1.room x.config r1.cores r1.partitions r1.channels) fun r15=>.b (zlc x.feeds r2) fun r16=>.c (!r15.1) (.n) (.c (!r16.1) (.n) (.c (!((r12.2:Int)==r14.2)) (.n) (.c (!(true==r14.1.isNone)) (.n) (.c r14.1.isNone (.n) (.b (zfX x.config x.programs) fun r18=>.c (!((r18.2.1:Int)==0)) (.b (zfX x.config []) fun r20=>.j (.l33 r20 r14 none)) (.j (.l33 r18 r14 none))))))))
def zDJ(x:zo):L8->Option R8:=zan (zGy x)
theorem zDK(x:zo)(l:L8):zDJ x l=(zGy x l).run (zDJ x):=zF _ l
def zsX(x:zo):Option R8:=(zGV x).run (zDJ x)
theorem oks8(x:zo):Oks 8 [.agg (Ty.enc .sBulkheadlaw25Start x)] [] (zsX x) to8:=zM GC9 (H:=H8) zJ Tryz.func8 rfl (by kernel_rfl) (st8 x) (fun J l=>by cases l <;> kernel_rfl) (fun J=>by kernel_rfl)
abbrev zin:=zQ × Bool
def zB4(r:zin):Ans:=⟨.tup [.ref 0 0,(avB r.2)],[.cells 45 [(zg r.1.c.frames),(zg r.1.c.major),(zg r.1.c.kernel),(zg r.1.c.room),.sl (.sl .sWindow) r.1.c.cores,.sl .sPartition r.1.c.partitions,.sl .sChannel r.1.c.channels,.v (.pointer none),.op .sBulkheadref25Calls r.1.r,.v (.pointer none),.v (.pointer none),.v (.pointer none),.v (.pointer none),.sl .sBulkheadlaw25KeptInts r.1.kept.ints]]⟩
inductive zik where | l33 (v0:R30) (v1:R27) (x0:Option zq)
def zCt:zaa:=⟨fun n=>[16].any (Nat.beq n),zgf [(33,⟨fgt [4,11] 154 0,[(.box 4 7,.op .sCallsCalls)]⟩)],[(.box 0 7,.nilp),(.box 0 9,.nilp),(.box 0 10,.nilp),(.box 0 11,.nilp),(.box 0 12,.nilp),(.box 0 13,.sl .sBulkheadlaw25KeptInts)],G0,(fun e=>match e with | 72=>[(6,138),(7,74)] | 85=>[(2,46)] | 136=>[(0,135)] | 140=>[(4,3)] | 189=>[(4,209)] | 195=>[(0,46)] | 219=>[(4,3)] | _=>[])⟩
def zBO(x:zo):zik->Nat × St | .l33 v0 v1 x0=>(33,⟨mkE [(4,.ref 0 0),(11,.sl (.i .u32) v0.1)] 154 0,[.cells 45 [(zg x.config.frames),(zg x.config.major),(zg x.config.kernel),(zg x.config.room),.sl (.sl .sWindow) x.config.cores,.sl .sPartition x.config.partitions,.sl .sChannel x.config.channels,.op .sCallsCalls x0,.op .sBulkheadref25Calls v1.1,.v (.pointer none),.v (.pointer none),.v (.pointer none),.v (.pointer none),.v (.slice none 0 0)]],GL,0,[],(fun e=>match e with | 72=>[(6,138),(7,74)] | 85=>[(2,46)] | 136=>[(0,135)] | 140=>[(4,3)] | 189=>[(4,209)] | 195=>[(0,46)] | 219=>[(4,3)] | _=>[])⟩)
def zw6(x:zo):zik->Tree zik zin | .l33 v0 v1 x0=>.b (znq v0.1) fun r21=>.b (znr v0.1) fun r23=>.b (znq v0.1) fun _=>.b (znr v0.1) fun _=>.g ((r21.2:Int)==0) <| .g ((r23.2:Int)==0) <| .n
def zoi(x:zo):Tree zik zin:=.b (zsK x.config) fun r1=>.b (zsL x.feeds) fun r2=>.o (zjm r1 r2) (fun r3=>.b (znp x.config x.feeds) fun r5=>.b (zlb r1.frames r1.major r1.kernel r1.room x.config r1.cores r1.partitions r1.channels) fun r6=>.b (zlc x.feeds r2) fun r7=>.c (!r6.1) (.n) (.c (!r7.1) (.n) (.c (!((r3.2:Int)==r5.2)) (.n) (.c (!(false==r5.1.isNone)) (.n) (.c r5.1.isNone (.n) (.b (zfX x.config x.programs) fun r9=>.c (!((r9.2.1:Int)==0)) (.b (zfX x.config []) fun r11=>.j (.l33 r11 r5 (some (⟨r3.1.frames,r3.1.lay,(some (r3.1.ducts.getD default)),(some (r3.1.devices.getD default)),(some (r3.1.wards.getD default))⟩:zq)))) (.j (.l33 r9 r5 (some (⟨r3.1.frames,r3.1.lay,(some (r3.1.ducts.getD default)),(some (r3.1.devices.getD default)),(some (r3.1.wards.getD default))⟩:zq)))))))))) (.b (zdi r1 r2) fun r12=>.b (znp x.config x.feeds) fun r14=>.b (zlb r1.frames r1.major r1.kernel r1.room x.config r1.cores r1.partitions r1.channels) fun r15=>.b (zlc x.feeds r2) fun r16=>.c (!r15.1) (.r ((⟨x.config,none,r14.1,none,none,none,none,(⟨[]⟩:zav)⟩:zQ),false)) (.c (!r16.1) (.r ((⟨x.config,none,r14.1,none,none,none,none,(⟨[]⟩:zav)⟩:zQ),false)) (.c (!((r12.2:Int)==r14.2)) (.r ((⟨x.config,none,r14.1,none,none,none,none,(⟨[]⟩:zav)⟩:zQ),false)) (.c (!(true==r14.1.isNone)) (.r ((⟨x.config,none,r14.1,none,none,none,none,(⟨[]⟩:zav)⟩:zQ),false)) (.c r14.1.isNone (.r ((⟨x.config,none,r14.1,none,none,none,none,(⟨[]⟩:zav)⟩:zQ),true)) (.b (zfX x.config x.programs) fun r18=>.c (!((r18.2.1:Int)==0)) (.b (zfX x.config []) fun r20=>.j (.l33 r20 r14 none)) (.j (.l33 r18 r14 none))))))))
def zxT(x:zo):zik->Option zin:=zan (zw6 x)
def zfl(x:zo):Option zin:=(zoi x).run (zxT x)
theorem zxw(x:zo):Oks 8 [.agg (Ty.enc .sBulkheadlaw25Start x)] [] (zfl x) zB4:=zM GC9 (H:=zCt) zJ Tryz.func8 rfl (by kernel_rfl) (zBO x) (fun J l=>by cases l <;> kernel_rfl) (fun J=>by kernel_rfl)
def k8:Fk 8:=aF (aS .sBulkheadlaw25Start fun a0=>aE (oks8 a0))
def zDa:Fk 8:=aF (aS .sBulkheadlaw25Start fun a0=>aE (zxw a0))
def GC10:GK:=zC5 [⟨8,zDa⟩] (zlj [⟨8,k8⟩] GC9)
abbrev R6:=Bool
def to6(r:R6):Ans:=⟨(avB r),[]⟩
inductive L6 where | l11 (v0:R12) (v1:R8) | l13 (v0:R12) (v1:R12) (v2:R8) | l15 (v0:R12) (v1:R12) (v2:R9) (v3:R8) | l17 (v0:R12) (v1:R12) (v2:R9) (v3:R12) (v4:R8) | l19 (v0:R12) (v1:R12) (v2:R9) (v3:R12) (v4:R12) (v5:R8) | l23 (v0:R12) (v1:R12) (v2:R9) (v3:R12) (v4:R12) (v5:R21) (v6:R21) (v7:R8) | l25 (v0:R12) (v1:R12) (v2:R9) (v3:R12) (v4:R12) (v5:R21) (v6:R21) (v7:R22) | l29 (v0:R12) (v1:R21) (v2:R21) (v3:R22) (v4:R12) (v5:R12) (v6:R12)
def H6:zaa:=htt [5,6,7,8,9,11,12,14] [(11,⟨fgt [1,3,6] 241 0,[]⟩),(13,⟨fgt [1,3,6,7,10] 241 0,[]⟩),(15,⟨fgt [1,3,6,7,10,11] 241 0,[]⟩),(17,⟨fgt [1,3,6,7,10,11,12,15] 241 0,[]⟩),(19,⟨fgt [1,3,6,7,10,11,12,15,16,17,18,19] 241 0,[]⟩),(23,⟨fgt [1,3,6,7,10,11,12,15,16,17,18,19,20,21,22,23] 241 0,[]⟩),(25,⟨fgt [3,6,7,10,11,12,15,16,17,18,19,20,21,22,23,24,25] 241 0,[]⟩),(29,⟨fgt [3,7,12,16,17,18,20,22,24] 241 0,[]⟩)] []
def st6:L6->Nat × St | .l11 v0 v1=>(11,⟨mkE [(1,.ref 0 0),(3,.ref 3 0),(6,(zg v0.2.2.2.1))] 241 0,[.cells 45 [(zg v1.1.c.frames),(zg v1.1.c.major),(zg v1.1.c.kernel),(zg v1.1.c.room),.sl (.sl .sWindow) v1.1.c.cores,.sl .sPartition v1.1.c.partitions,.sl .sChannel v1.1.c.channels,.op .sCallsCalls v1.1.s,.op .sBulkheadref25Calls v1.1.r,.ref 1 0,.op .sBulkheadref05Memory v1.1.n,.op .sMemMemory v1.1.p,.op .sBulkheadref05Memory v1.1.q,.sl .sBulkheadlaw25KeptInts v1.1.kept.ints],.cells 112 [.own 2],.arr 46 (.i .u32) v0.2.2.2.2.words,.cells 57 (Ty.enc .sContext v0.1)],GL,0,[],zO⟩) | .l13 v0 v1 v2=>(13,⟨mkE [(1,.ref 0 0),(3,.ref 3 0),(6,(zg v0.2.2.2.1)),(7,.ref 4 0),(10,(zg v1.2.2.2.1))] 241 0,[.cells 45 [(zg v2.1.c.frames),(zg v2.1.c.major),(zg v2.1.c.kernel),(zg v2.1.c.room),.sl (.sl .sWindow) v2.1.c.cores,.sl .sPartition v2.1.c.partitions,.sl .sChannel v2.1.c.channels,.op .sCallsCalls v2.1.s,.op .sBulkheadref25Calls v2.1.r,.ref 1 0,.op .sBulkheadref05Memory v2.1.n,.op .sMemMemory v2.1.p,.op .sBulkheadref05Memory v2.1.q,.sl .sBulkheadlaw25KeptInts v2.1.kept.ints],.cells 112 [.own 2],.arr 46 (.i .u32) v1.2.2.2.2.words,.cells 57 (Ty.enc .sContext v0.1),.cells 57 (Ty.enc .sContext v1.1)],GL,0,[],zO⟩) | .l15 v0 v1 v2 v3=>(15,⟨mkE [(1,.ref 0 0),(3,.ref 3 0),(6,(zg v0.2.2.2.1)),(7,.ref 4 0),(10,(zg v1.2.2.2.1)),(11,(zg v2.1))] 241 0,[.cells 45 [(zg v3.1.c.frames),(zg v3.1.c.major),(zg v3.1.c.kernel),(zg v3.1.c.room),.sl (.sl .sWindow) v3.1.c.cores,.sl .sPartition v3.1.c.partitions,.sl .sChannel v3.1.c.channels,.op .sCallsCalls v3.1.s,.op .sBulkheadref25Calls v3.1.r,.ref 1 0,.op .sBulkheadref05Memory v3.1.n,.op .sMemMemory v3.1.p,.op .sBulkheadref05Memory v3.1.q,.sl .sBulkheadlaw25KeptInts v3.1.kept.ints],.cells 112 [.own 2],.arr 46 (.i .u32) v2.2.words,.cells 57 (Ty.enc .sContext v0.1),.cells 57 (Ty.enc .sContext v1.1)],GL,0,[],zO⟩) | .l17 v0 v1 v2 v3 v4=>(17,⟨mkE [(1,.ref 0 0),(3,.ref 3 0),(6,(zg v0.2.2.2.1)),(7,.ref 4 0),(10,(zg v1.2.2.2.1)),(11,(zg v2.1)),(12,.ref 5 0),(15,(zg v3.2.2.2.1))] 241 0,[.cells 45 [(zg v4.1.c.frames),(zg v4.1.c.major),(zg v4.1.c.kernel),(zg v4.1.c.room),.sl (.sl .sWindow) v4.1.c.cores,.sl .sPartition v4.1.c.partitions,.sl .sChannel v4.1.c.channels,.op .sCallsCalls v4.1.s,.op .sBulkheadref25Calls v4.1.r,.ref 1 0,.op .sBulkheadref05Memory v4.1.n,.op .sMemMemory v4.1.p,.op .sBulkheadref05Memory v4.1.q,.sl .sBulkheadlaw25KeptInts v4.1.kept.ints],.cells 112 [.own 2],.arr 46 (.i .u32) v3.2.2.2.2.words,.cells 57 (Ty.enc .sContext v0.1),.cells 57 (Ty.enc .sContext v1.1),.cells 57 (Ty.enc .sContext v3.1)],GL,0,[],zO⟩) | .l19 v0 v1 v2 v3 v4 v5=>(19,⟨mkE [(1,.ref 0 0),(3,.ref 3 0),(6,(zg v0.2.2.2.1)),(7,.ref 4 0),(10,(zg v1.2.2.2.1)),(11,(zg v2.1)),(12,.ref 5 0),(15,(zg v3.2.2.2.1)),(16,.ref 6 0),(17,(zr v4.2.1)),(18,(avB v4.2.2.1)),(19,(zg v4.2.2.2.1))] 241 0,[.cells 45 [(zg v5.1.c.frames),(zg v5.1.c.major),(zg v5.1.c.kernel),(zg v5.1.c.room),.sl (.sl .sWindow) v5.1.c.cores,.sl .sPartition v5.1.c.partitions,.sl .sChannel v5.1.c.channels,.op .sCallsCalls v5.1.s,.op .sBulkheadref25Calls v5.1.r,.ref 1 0,.op .sBulkheadref05Memory v5.1.n,.op .sMemMemory v5.1.p,.op .sBulkheadref05Memory v5.1.q,.sl .sBulkheadlaw25KeptInts v5.1.kept.ints],.cells 112 [.own 2],.arr 46 (.i .u32) v4.2.2.2.2.words,.cells 57 (Ty.enc .sContext v0.1),.cells 57 (Ty.enc .sContext v1.1),.cells 57 (Ty.enc .sContext v3.1),.cells 57 (Ty.enc .sContext v4.1)],GL,0,[],zO⟩) | .l23 v0 v1 v2 v3 v4 v5 v6 v7=>(23,⟨mkE [(1,.ref 0 0),(3,.ref 3 0),(6,(zg v0.2.2.2.1)),(7,.ref 4 0),(10,(zg v1.2.2.2.1)),(11,(zg v2.1)),(12,.ref 5 0),(15,(zg v3.2.2.2.1)),(16,.ref 6 0),(17,(zr v4.2.1)),(18,(avB v4.2.2.1)),(19,(zg v4.2.2.2.1)),(20,(zr v5.1)),(21,(zg v5.2)),(22,(zr v6.1)),(23,(zg v6.2))] 241 0,[.cells 45 [(zg v7.1.c.frames),(zg v7.1.c.major),(zg v7.1.c.kernel),(zg v7.1.c.room),.sl (.sl .sWindow) v7.1.c.cores,.sl .sPartition v7.1.c.partitions,.sl .sChannel v7.1.c.channels,.op .sCallsCalls v7.1.s,.op .sBulkheadref25Calls v7.1.r,.ref 1 0,.op .sBulkheadref05Memory v7.1.n,.op .sMemMemory v7.1.p,.op .sBulkheadref05Memory v7.1.q,.sl .sBulkheadlaw25KeptInts v7.1.kept.ints],.cells 112 [.own 2],.arr 46 (.i .u32) v4.2.2.2.2.words,.cells 57 (Ty.enc .sContext v0.1),.cells 57 (Ty.enc .sContext v1.1),.cells 57 (Ty.enc .sContext v3.1),.cells 57 (Ty.enc .sContext v4.1)],GL,0,[],zO⟩) | .l25 v0 v1 v2 v3 v4 v5 v6 v7=>(25,⟨mkE [(3,.ref 0 0),(6,(zg v0.2.2.2.1)),(7,.ref 1 0),(10,(zg v1.2.2.2.1)),(11,(zg v2.1)),(12,.ref 2 0),(15,(zg v3.2.2.2.1)),(16,.ref 3 0),(17,(zr v4.2.1)),(18,(avB v4.2.2.1)),(19,(zg v4.2.2.2.1)),(20,(zr v5.1)),(21,(zg v5.2)),(22,(zr v6.1)),(23,(zg v6.2)),(24,.sl (.i .i64) v7.1),(25,(zg v7.2))] 241 0,[.cells 57 (Ty.enc .sContext v0.1),.cells 57 (Ty.enc .sContext v1.1),.cells 57 (Ty.enc .sContext v3.1),.cells 57 (Ty.enc .sContext v4.1)],GL,0,[],zO⟩) | .l29 v0 v1 v2 v3 v4 v5 v6=>(29,⟨mkE [(3,.ref 0 0),(7,.ref 1 0),(12,.ref 2 0),(16,.ref 3 0),(17,(zr v0.2.1)),(18,(avB v0.2.2.1)),(20,(zr v1.1)),(22,(zr v2.1)),(24,.sl (.i .i64) v3.1)] 241 0,[.cells 57 (Ty.enc .sContext v4.1),.cells 57 (Ty.enc .sContext v5.1),.cells 57 (Ty.enc .sContext v6.1),.cells 57 (Ty.enc .sContext v0.1)],GL,0,[],zO⟩)
def zf4:L6->Tree L6 R6 | .l11 v0 v1=>.b (zhD (⟨0,0,0,0,0,0,4,2,0,[]⟩:zp)) fun r9=>.b (zfn v1.1.s 0 0 1 r9 v0.2.2.2.2.words) fun r10=>.j (.l13 v0 r10 v1) | .l13 v0 v1 v2=>.b (zuk v2.1.s v1.2.2.2.2.words) fun r11=>.j (.l15 v0 v1 r11 v2) | .l15 v0 v1 v2 v3=>.b (zhD (⟨0,0,0,0,0,0,9,0,0,[]⟩:zp)) fun r12=>.b (zfn v3.1.s 2 1 2 r12 v2.2.words) fun r13=>.j (.l17 v0 v1 v2 r13 v3) | .l17 v0 v1 v2 v3 v4=>.b (zhD (⟨0,0,0,0,0,88,0,0,0,[]⟩:zp)) fun r14=>.b (zfn v4.1.s 0 2 5 r14 v3.2.2.2.2.words) fun r15=>.j (.l19 v0 v1 v2 v3 r15 v4) | .l19 v0 v1 v2 v3 v4 v5=>.b (zey (some v4.2.2.2.2) 41) fun r16=>.b (zey (some v4.2.2.2.2) 42) fun r17=>.j (.l23 v0 v1 v2 v3 v4 r16 r17 v5) | .l23 v0 v1 v2 v3 v4 v5 v6 v7=>.b (zhD (⟨0,0,0,0,0,1,0,0,0,[]⟩:zp)) fun r18=>.b (zvM v7.1.s 0 1 r18) fun r20=>.j (.l25 v0 v1 v2 v3 v4 v5 v6 r20) | .l25 v0 v1 v2 v3 v4 v5 v6 v7=>.c (!((v0.2.2.2.1:Int)==0)) (.r false) (.c (!((v1.2.2.2.1:Int)==0)) (.r false) (.c (!((v2.1:Int)==0)) (.r false) (.c (!((v3.2.2.2.1:Int)==0)) (.r false) (.c (!((v4.2.2.2.1:Int)==0)) (.r false) (.c (!((v5.2:Int)==0)) (.r false) (.c (!((v6.2:Int)==0)) (.r false) (.c (!((v7.2:Int)==0)) (.r false) (.j (.l29 v4 v5 v6 v7 v0 v1 v3))))))))) | .l29 v0 v1 v2 v3 v4 v5 v6 =>let y1:=zN 1 16;.g y1 <| .c ((v4.1.regs.e1:Int)==0) (.g (zN 2 16) <| .c ((v4.1.regs.e2:Int)==77) (.g y1 <| .c ((v5.1.regs.e1:Int)==0) (.g y1 <| .c ((v6.1.regs.e1:Int)==0) (.g (zN 2 16) <| .c ((v6.1.regs.e2:Int)==2) (.g (zN 3 16) <| .c ((v6.1.regs.e3:Int)==1) (.g y1 <| .c ((v0.1.regs.e1:Int)==0) (.c ((v0.2.1:Int)==88) (.c v0.2.2.1 (.c ((v1.1:Int)==7) (.c ((v2.1:Int)==8) (.c ((v3.1.length:Int)==2) (.g (zN 0 v3.1.length) <| .c ((zw v3.1 0:Int)==50) (.g (zN 1 v3.1.length) <| .r ((zw v3.1 1:Int)==138)) (.r false)) (.r false)) (.r false)) (.r false)) (.r false)) (.r false)) (.r false)) (.r false)) (.r false)) (.r false)) (.r false)) (.r false)) (.r false)
def zGU:Tree L6 R6:=.o (zsX zBB) (fun r3=>.c (!r3.2) (.r false) (.c r3.1.s.isNone (.r false) (.b (zhD (⟨0,0,0,0,0,0,0,0,0,[]⟩:zp)) fun r4=>.b (zfn r3.1.s 0 3 4 r4 ((r3.1.m.getD default).words)) fun r5=>.j (.l11 r5 r3)))) (.b (zfl zBB) fun r8=>.c (!r8.2) (.r false) (.r false))
def zJj:L6->Option R6:=zan (zf4)
theorem zeI(l:L6):zJj l=(zf4 l).run (zJj):=zF _ l
def zDL:Option R6:=(zGU).run (zJj)
theorem zG1(J:Jmp)(v0:R12)(v1:R8):stepAt Pr GC10.G H6 J (st6 (.l11 v0 v1)).1 0 (zc5 Tryz.f6) (fin Pr H6 Tryz.f6) (st6 (.l11 v0 v1)).2=(zf4 (.l11 v0 v1)).runA to6 fun l=>J (st6 l).1 (st6 l).2:=by kernel_rfl
theorem zG2(J:Jmp)(v0:R12)(v1:R12)(v2:R8):stepAt Pr GC10.G H6 J (st6 (.l13 v0 v1 v2)).1 0 (zc5 Tryz.f6) (fin Pr H6 Tryz.f6) (st6 (.l13 v0 v1 v2)).2=(zf4 (.l13 v0 v1 v2)).runA to6 fun l=>J (st6 l).1 (st6 l).2:=by kernel_rfl
theorem zG3(J:Jmp)(v0:R12)(v1:R12)(v2:R9)(v3:R8):stepAt Pr GC10.G H6 J (st6 (.l15 v0 v1 v2 v3)).1 0 (zc5 Tryz.f6) (fin Pr H6 Tryz.f6) (st6 (.l15 v0 v1 v2 v3)).2=(zf4 (.l15 v0 v1 v2 v3)).runA to6 fun l=>J (st6 l).1 (st6 l).2:=by kernel_rfl
theorem zG4(J:Jmp)(v0:R12)(v1:R12)(v2:R9)(v3:R12)(v4:R8):stepAt Pr GC10.G H6 J (st6 (.l17 v0 v1 v2 v3 v4)).1 0 (zc5 Tryz.f6) (fin Pr H6 Tryz.f6) (st6 (.l17 v0 v1 v2 v3 v4)).2=(zf4 (.l17 v0 v1 v2 v3 v4)).runA to6 fun l=>J (st6 l).1 (st6 l).2:=by kernel_rfl
theorem zG5(J:Jmp)(v0:R12)(v1:R12)(v2:R9)(v3:R12)(v4:R12)(v5:R8):stepAt Pr GC10.G H6 J (st6 (.l19 v0 v1 v2 v3 v4 v5)).1 0 (zc5 Tryz.f6) (fin Pr H6 Tryz.f6) (st6 (.l19 v0 v1 v2 v3 v4 v5)).2=(zf4 (.l19 v0 v1 v2 v3 v4 v5)).runA to6 fun l=>J (st6 l).1 (st6 l).2:=by kernel_rfl
theorem zG6(J:Jmp)(v0:R12)(v1:R12)(v2:R9)(v3:R12)(v4:R12)(v5:R21)(v6:R21)(v7:R8):stepAt Pr GC10.G H6 J (st6 (.l23 v0 v1 v2 v3 v4 v5 v6 v7)).1 0 (zc5 Tryz.f6) (fin Pr H6 Tryz.f6) (st6 (.l23 v0 v1 v2 v3 v4 v5 v6 v7)).2=(zf4 (.l23 v0 v1 v2 v3 v4 v5 v6 v7)).runA to6 fun l=>J (st6 l).1 (st6 l).2:=by kernel_rfl
theorem zG7(J:Jmp)(v0:R12)(v1:R12)(v2:R9)(v3:R12)(v4:R12)(v5:R21)(v6:R21)(v7:R22):stepAt Pr GC10.G H6 J (st6 (.l25 v0 v1 v2 v3 v4 v5 v6 v7)).1 0 (zc5 Tryz.f6) (fin Pr H6 Tryz.f6) (st6 (.l25 v0 v1 v2 v3 v4 v5 v6 v7)).2=(zf4 (.l25 v0 v1 v2 v3 v4 v5 v6 v7)).runA to6 fun l=>J (st6 l).1 (st6 l).2:=by kernel_rfl
theorem zG8(J:Jmp)(v0:R12)(v1:R21)(v2:R21)(v3:R22)(v4:R12)(v5:R12)(v6:R12):stepAt Pr GC10.G H6 J (st6 (.l29 v0 v1 v2 v3 v4 v5 v6)).1 0 (zc5 Tryz.f6) (fin Pr H6 Tryz.f6) (st6 (.l29 v0 v1 v2 v3 v4 v5 v6)).2=(zf4 (.l29 v0 v1 v2 v3 v4 v5 v6)).runA to6 fun l=>J (st6 l).1 (st6 l).2:=by kernel_rfl
theorem ru6(J:Jmp):zxL Pr GC10.G H6 J GL Tryz.f6 [] []=(zGU).runA to6 fun l=>J (st6 l).1 (st6 l).2:=by kernel_rfl
theorem oks6:Oks 6 [] [] (zDL) to6:=zM GC10 (H:=H6) zJ Tryz.func6 rfl (by kernel_rfl) (st6) (fun J l=>match l with | .l11 v0 v1=>zG1 J v0 v1 | .l13 v0 v1 v2=>zG2 J v0 v1 v2 | .l15 v0 v1 v2 v3=>zG3 J v0 v1 v2 v3 | .l17 v0 v1 v2 v3 v4=>zG4 J v0 v1 v2 v3 v4 | .l19 v0 v1 v2 v3 v4 v5=>zG5 J v0 v1 v2 v3 v4 v5 | .l23 v0 v1 v2 v3 v4 v5 v6 v7=>zG6 J v0 v1 v2 v3 v4 v5 v6 v7 | .l25 v0 v1 v2 v3 v4 v5 v6 v7=>zG7 J v0 v1 v2 v3 v4 v5 v6 v7 | .l29 v0 v1 v2 v3 v4 v5 v6=>zG8 J v0 v1 v2 v3 v4 v5 v6) (ru6)
def k6:Fk 6:=aF (aE (oks6))
def GC11:GK:=zlj [⟨6,k6⟩] GC10
abbrev R3:=Bool
def to3(r:R3):Ans:=⟨(avB r),[]⟩
inductive L3 where | l0 (v0:R8) (x0:Int) (x1:List Int)
def H3:zaa:=htt [] [(0,⟨fgt [1,5,7] 182 0,[]⟩)] []
def st3(x:zo)(script:(List zp)):L3->Nat × St | .l0 v0 x0 x1=>(0,⟨mkE [(1,.sl .sBulkheadlaw25Op script),(5,.ref 0 0),(7,(zg x0))] 182 0,[.cells 45 [(zg v0.1.c.frames),(zg v0.1.c.major),(zg v0.1.c.kernel),(zg v0.1.c.room),.sl (.sl .sWindow) v0.1.c.cores,.sl .sPartition v0.1.c.partitions,.sl .sChannel v0.1.c.channels,.op .sCallsCalls v0.1.s,.op .sBulkheadref25Calls v0.1.r,.ref 1 0,.op .sBulkheadref05Memory v0.1.n,.op .sMemMemory v0.1.p,.op .sBulkheadref05Memory v0.1.q,.sl .sBulkheadlaw25KeptInts v0.1.kept.ints],.cells 112 [.own 2],.arr 46 (.i .u32) x1],GL,0,[],zO⟩)
def zCP(x:zo)(script:(List zp)):L3->Tree L3 R3 | .l0 v0 x0 x1 =>let y1:=zt script x0.toNat;let y2:=i64.wrap (x0+1);let y3:=zN 1 16;.c (decide (x0<script.length)) (.g (zN x0 script.length) <| .c ((y1.kind:Int)==4) (.b (zuk v0.1.s x1) fun r7=>.c (!((r7.1:Int)==0)) (.r false) (.j (.l0 v0 y2 r7.2.words))) (.b (zjl (y1.p) v0.1.c.partitions.length) fun r8=>.b (zjl (y1.call) 8) fun r9=>.b (zjl (y1.epoch) 1073741824) fun r10=>.b (zsJ (some (⟨x1⟩:ze))) fun r11=>.b (zhD (⟨y1.kind,r8,r10,r9,y1.a,y1.r1,y1.r2,y1.r3,y1.w,y1.list⟩:zp)) fun r12=>.b (zfn v0.1.s r8 r10 r9 r12 x1) fun r13=>.c (!((r13.2.2.2.1:Int)==0)) (.r false) (.b (zsJ (some r13.2.2.2.2)) fun r14=>.b (zhD (⟨y1.kind,r8,r10,r9,y1.a,y1.r1,y1.r2,y1.r3,y1.w,y1.list⟩:zp)) fun r15=>.g y3 <| .g y3 <| .g (zN 2 16) <| .g (zN 2 16) <| .g (zN 3 16) <| .g (zN 3 16) <| .c ((r9:Int)==5) (.g y3 <| .c (!((((r13.1.regs.e0:Int)==r15.regs.e0)&&(((r13.1.regs.e1:Int)==r13.1.regs.e1)&&(((r13.1.regs.e2:Int)==r13.1.regs.e2)&&(((r13.1.regs.e3:Int)==r13.1.regs.e3)&&(((r13.1.regs.e4:Int)==r15.regs.e4)&&(((r13.1.regs.e5:Int)==r15.regs.e5)&&(((r13.1.regs.e6:Int)==r15.regs.e6)&&(((r13.1.regs.e7:Int)==r15.regs.e7)&&(((r13.1.regs.e8:Int)==r15.regs.e8)&&(((r13.1.regs.e9:Int)==r15.regs.e9)&&(((r13.1.regs.e10:Int)==r15.regs.e10)&&(((r13.1.regs.e11:Int)==r15.regs.e11)&&(((r13.1.regs.e12:Int)==r15.regs.e12)&&(((r13.1.regs.e13:Int)==r15.regs.e13)&&(((r13.1.regs.e14:Int)==r15.regs.e14)&&(((r13.1.regs.e15:Int)==r15.regs.e15)&&true))))))))))))))))&&(((r13.1.pC:Int)==r15.pC)&&true))) (.r false) (.g y3 <| .c (decide ((r13.1.regs.e1:Int)>7)) (.r false) (.c (!(r13.2.2.1==((r13.1.regs.e1:Int)==0))) (.r false) (.c ((r13.1.regs.e1:Int)==0) (.c (!((r13.2.1:Int)==y1.r1)) (.r false) (.c (!((r13.1.regs.e1:Int)==0)) (.c (!((r13.2.1:Int)==0)) (.r false) (.g y3 <| .b (zla v0.1.c (⟨y1.kind,r8,r10,r9,y1.a,y1.r1,y1.r2,y1.r3,y1.w,y1.list⟩:zp) r13.1.regs.e1 r11 r14) fun r16=>.c (!r16) (.r false) (.j (.l0 v0 y2 r13.2.2.2.2.words)))) (.g y3 <| .b (zla v0.1.c (⟨y1.kind,r8,r10,r9,y1.a,y1.r1,y1.r2,y1.r3,y1.w,y1.list⟩:zp) r13.1.regs.e1 r11 r14) fun r17=>.c (!r17) (.r false) (.j (.l0 v0 y2 r13.2.2.2.2.words))))) (.c (!((r13.1.regs.e1:Int)==0)) (.c (!((r13.2.1:Int)==0)) (.r false) (.g y3 <| .b (zla v0.1.c (⟨y1.kind,r8,r10,r9,y1.a,y1.r1,y1.r2,y1.r3,y1.w,y1.list⟩:zp) r13.1.regs.e1 r11 r14) fun r18=>.c (!r18) (.r false) (.j (.l0 v0 y2 r13.2.2.2.2.words)))) (.g y3 <| .b (zla v0.1.c (⟨y1.kind,r8,r10,r9,y1.a,y1.r1,y1.r2,y1.r3,y1.w,y1.list⟩:zp) r13.1.regs.e1 r11 r14) fun r19=>.c (!r19) (.r false) (.j (.l0 v0 y2 r13.2.2.2.2.words)))))))) (.c (!((((r13.1.regs.e0:Int)==r15.regs.e0)&&(((r13.1.regs.e1:Int)==r13.1.regs.e1)&&(((r13.1.regs.e2:Int)==r13.1.regs.e2)&&(((r13.1.regs.e3:Int)==r13.1.regs.e3)&&(((r13.1.regs.e4:Int)==r15.regs.e4)&&(((r13.1.regs.e5:Int)==r15.regs.e5)&&(((r13.1.regs.e6:Int)==r15.regs.e6)&&(((r13.1.regs.e7:Int)==r15.regs.e7)&&(((r13.1.regs.e8:Int)==r15.regs.e8)&&(((r13.1.regs.e9:Int)==r15.regs.e9)&&(((r13.1.regs.e10:Int)==r15.regs.e10)&&(((r13.1.regs.e11:Int)==r15.regs.e11)&&(((r13.1.regs.e12:Int)==r15.regs.e12)&&(((r13.1.regs.e13:Int)==r15.regs.e13)&&(((r13.1.regs.e14:Int)==r15.regs.e14)&&(((r13.1.regs.e15:Int)==r15.regs.e15)&&true))))))))))))))))&&(((r13.1.pC:Int)==r15.pC)&&true))) (.r false) (.g y3 <| .c (decide ((r13.1.regs.e1:Int)>7)) (.r false) (.c (!(r13.2.2.1==false)) (.r false) (.c (!((r13.2.1:Int)==0)) (.r false) (.g y3 <| .b (zla v0.1.c (⟨y1.kind,r8,r10,r9,y1.a,y1.r1,y1.r2,y1.r3,y1.w,y1.list⟩:zp) r13.1.regs.e1 r11 r14) fun r20=>.c (!r20) (.r false) (.j (.l0 v0 y2 r13.2.2.2.2.words)))))))))) (.r true)
def ent3(x:zo)(script:(List zp)):Tree L3 R3:=.b (zDL) fun r1=>.c (!r1) (.r false) (.b (zDM x) fun r2=>.c r2 (.r true) (.o (zsX x) (fun r4=>.c (!r4.2) (.r r4.2) (.c r4.1.s.isNone (.r r4.2) (.j (.l0 r4 0 ((r4.1.m.getD default).words))))) (.b (zfl x) fun r6=>.c (!r6.2) (.r r6.2) (.r r6.2))))
def zDI(x:zo)(script:(List zp)):L3->Option R3:=zan (zCP x script)
theorem zvE(x:zo)(script:(List zp))(l:L3):zDI x script l=(zCP x script l).run (zDI x script):=zF _ l
def zJk(x:zo)(script:(List zp)):Option R3:=(ent3 x script).run (zDI x script)
theorem oks3(x:zo)(script:(List zp)):Oks 3 [.agg (Ty.enc .sBulkheadlaw25Start x),.sl .sBulkheadlaw25Op script] [] (zJk x script) to3:=zM GC11 (H:=H3) zJ Tryz.func3 rfl (by kernel_rfl) (st3 x script) (fun J l=>by cases l <;> kernel_rfl) (fun J=>by kernel_rfl)
end Go.Proofs.YtgajeebphoiphaaGreatDoor
end
