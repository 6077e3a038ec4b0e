import Derived.Test.YtgajeebphoiphaaGreatDoorC2b
import Derived.Test.YtgajeebphoiphaaGreatDoorC2c
set_option linter.unusedVariables false
set_option linter.unusedSimpArgs false
noncomputable section
open Go.IntKind (i64 u32)
namespace Go.Proofs.YtgajeebphoiphaaGreatDoor
open Go.RowKit
def k22:Fk 22:=aF (aL (.p .sCallsCalls) fun a0=>aL (.i .i64) fun a1=>aL (.i .i64) fun a2=>aS .sContext fun a3=>aE (zNF a0 a1 a2 a3))
def k47:Fk 47:=aF (aS .sConfig fun a0=>aE (zN2 a0))
def k70:Fk 70:=aF (aS .sConfig fun a0=>aE (zOp a0))
def k71:Fk 71:=aF (aS .sConfig fun a0=>aE (zOq a0))
def g106(args:List AV)(hp:List Blk):Option Rsp:=
 match args,hp with
 | [a0,.ref 0 0,a2],[.cells 112 [.own 1],.arr 46 (.i .u32) y0]=>(rdL (.p .sDeviceDevices) a0).bind fun b0=>(rdL (.i .i64) a2).bind fun b2=>some ⟨zGp,(znh b0 b2 y0),zFH,default⟩
 | _,_=>none
def k106:Fk 106:=⟨g106,fun args hp y h x hx=>by
 unfold g106 at h
 split at h
 . simp only[Option.bind_eq_some_iff]at h
   obtain ⟨b0,h0,b2,h2,h⟩:=h
   cases h;exact(zIa b0 b2 _).ats (.cons (z9 h0) (.cons (fun _ _ _ _ h=>h) (.cons (z9 h2) .nil))) hx
 . cases h⟩
def k121:Fk 121:=aF (aS .sConfig fun a0=>aL (.i .i64) fun a1=>aE (zIj a0 a1))
def k122:Fk 122:=aF (aP .sConfig fun a0=>aP (.i .i64) fun a1=>aE (zBo a0 a1))
def k124:Fk 124:=aF (aP .sConfig fun a0=>aP (.i .i64) fun a1=>aE (zBp a0 a1))
def k136:Fk 136:=aF (aS .sConfig fun a0=>aL (.i .i64) fun a1=>aL (.i .i64) fun a2=>aE (zIr a0 a1 a2))
def g161(args:List AV)(hp:List Blk):Option Rsp:=
 match args,hp with
 | [a0,.ref 0 0,a2,a3],[.cells 112 [.own 1],.arr 46 (.i .u32) y0]=>(rdL (.p .sHealthWards) a0).bind fun b0=>(rdL (.i .i64) a2).bind fun b2=>(rdL .b a3).bind fun b3=>some ⟨zGv,(znq b0 b2 b3 y0),zFM,default⟩
 | _,_=>none
def k161:Fk 161:=⟨g161,fun args hp y h x hx=>by
 unfold g161 at h
 split at h
 . simp only[Option.bind_eq_some_iff]at h
   obtain ⟨b0,h0,b2,h2,b3,h3,h⟩:=h
   cases h;exact(zIQ b0 b2 b3 _).ats (.cons (z9 h0) (.cons (fun _ _ _ _ h=>h) (.cons (z9 h2) (.cons (z9 h3) .nil)))) hx
 . cases h⟩
def k170:Fk 170:=aF (aL (.p .sMemMemory) fun a0=>aL (.i .i64) fun a1=>aL (.i .i64) fun a2=>aE (zIZ a0 a1 a2))
def k172:Fk 172:=aF (aS .sQueueForm fun a0=>aL (.p .sMemMemory) fun a1=>aL (.i .i64) fun a2=>aL (.i .i64) fun a3=>aE (zI1 a0 a1 a2 a3))
def g173(args:List AV)(hp:List Blk):Option Rsp:=
 match args,hp with
 | [a0,.ref 0 0,a2],[.cells 112 [.own 1],.arr 46 (.i .u32) y0]=>(rdS .sQueueForm a0).bind fun b0=>(rdL (.i .i64) a2).bind fun b2=>some ⟨zxm,(zgO b0 b2 y0),zFQ,default⟩
 | _,_=>none
def k173:Fk 173:=⟨g173,fun args hp y h x hx=>by
 unfold g173 at h
 split at h
 . simp only[Option.bind_eq_some_iff]at h
   obtain ⟨b0,h0,b2,h2,h⟩:=h
   cases h;exact(zI2 b0 b2 _).ats (.cons (zcy h0) (.cons (fun _ _ _ _ h=>h) (.cons (z9 h2) .nil))) hx
 . cases h⟩
def g174(args:List AV)(hp:List Blk):Option Rsp:=
 match args,hp with
 | [a0,.ref 0 0,a2,a3,a4],[.cells 112 [.own 1],.arr 46 (.i .u32) y0]=>(rdS .sQueueForm a0).bind fun b0=>(rdL (.i .i64) a2).bind fun b2=>(rdS .sQueueRow a3).bind fun b3=>(rdL (.sl (.i .u32)) a4).bind fun b4=>some ⟨zxn,(ze2 b0 b2 b3 b4 y0),zFR,default⟩
 | _,_=>none
def k174:Fk 174:=⟨g174,fun args hp y h x hx=>by
 unfold g174 at h
 split at h
 . simp only[Option.bind_eq_some_iff]at h
   obtain ⟨b0,h0,b2,h2,b3,h3,b4,h4,h⟩:=h
   cases h;exact(zI3 b0 b2 b3 b4 _).ats (.cons (zcy h0) (.cons (fun _ _ _ _ h=>h) (.cons (z9 h2) (.cons (zcy h3) (.cons (z9 h4) .nil))))) hx
 . cases h⟩
def g214(args:List AV)(hp:List Blk):Option Rsp:=
 match args,hp with
 | [a0,.ref 0 0,a2],[.cells 112 [.own 1],.arr 46 (.i .u32) y0]=>(rdS .sQueueForm a0).bind fun b0=>(rdL (.i .i64) a2).bind fun b2=>some ⟨znZ,(zgQ b0 b2 y0),zF4,default⟩
 | _,_=>none
def k214:Fk 214:=⟨g214,fun args hp y h x hx=>by
 unfold g214 at h
 split at h
 . simp only[Option.bind_eq_some_iff]at h
   obtain ⟨b0,h0,b2,h2,h⟩:=h
   cases h;exact(zJl b0 b2 _).ats (.cons (zcy h0) (.cons (fun _ _ _ _ h=>h) (.cons (z9 h2) .nil))) hx
 . cases h⟩
def k226:Fk 226:=aF (aL (.p .sMemMemory) fun a0=>aL (.i .i64) fun a1=>aL (.i .i64) fun a2=>aL (.i .i64) fun a3=>aE (zJx a0 a1 a2 a3))
def GC2:GK:=zhZ [⟨22,k22⟩,⟨47,k47⟩,⟨70,k70⟩,⟨71,k71⟩,⟨106,k106⟩,⟨121,k121⟩,⟨122,k122⟩,⟨124,k124⟩,⟨136,k136⟩,⟨161,k161⟩,⟨170,k170⟩,⟨172,k172⟩,⟨173,k173⟩,⟨174,k174⟩,⟨214,k214⟩,⟨226,k226⟩] GC1
abbrev R51:=zaR × Int
def to51(r:R51):Ans:=⟨.tup [.agg [(zg r.1.barrier),.sl .sPartitionPlace r.1.qq,.sl .sChannelPlace r.1.qw,(zg r.1.end_)],(zg r.2)],[]⟩
inductive L51 where | l0 (x0:Int) (x1:List zF) | l4 (v0:R71) (x0:Int) (x1:Int) (x2:Int) (x3:Int) (x4:List zk) (x5:List zF) | l81 (v0:R71) (x0:Int) (x1:Int) (x2:Int) (x3:Int) (x4:List zk) (x5:List zF)
def H51:zab:=⟨fun n=>[40].any (Nat.beq n),zfi [(0,⟨fgt [1,2,4,29,30] 190 0,[]⟩),(4,⟨fgt [2,4,8,9,10,58,59] 190 0,[]⟩),(81,⟨fgt [2,4,8,9,10,58,59] 190 0,[]⟩)],[(.cell 0 1,.sl .sPartitionPlace),(.cell 0 2,.sl .sChannelPlace)],G0,(fun e=>match e with | 140=>[(4,3)] | 189=>[(4,209)] | _=>[])⟩
def st51(c:za):L51->Nat × St | .l0 x0 x1=>(0,⟨mkE [(1,.ref 0 0),(2,.ref 1 0),(4,.ref 2 0),(29,(zg c.qw.length)),(30,(zg x0))] 190 0,[.cells 26 (Ty.enc .sConfig c),.cells 104 [(zg 0),.v (.slice none 0 0),.v (.slice none 0 0),(zg 0)],.cells 104 [(zg 0),.own 3,.own 4,(zg 0)],.row 140 .sPartitionPlace [(4,3)] [] (List.replicate (c.qq.length:Int).toNat (⟨0,0,0,0,[]⟩:zk)),.row 189 .sChannelPlace [(4,209)] [] x1],GL,0,[],(fun e=>match e with | 140=>[(4,3)] | 189=>[(4,209)] | _=>[])⟩) | .l4 v0 x0 x1 x2 x3 x4 x5=>(4,⟨mkE [(2,.ref 0 0),(4,.ref 1 0),(8,(zg x0)),(9,.own 4),(10,(zg x1)),(58,(zg v0.length)),(59,(zg x2))] 190 0,[.cells 104 [(zg 0),.v (.slice none 0 0),.v (.slice none 0 0),(zg 0)],.cells 104 [(zg x3),.own 2,.own 3,(zg 0)],.row 140 .sPartitionPlace [(4,3)] [] x4,.row 189 .sChannelPlace [(4,209)] [] x5,.arr 182 .sBulkheadref15Piece v0],GL,0,[],(fun e=>match e with | 140=>[(4,3)] | 189=>[(4,209)] | _=>[])⟩) | .l81 v0 x0 x1 x2 x3 x4 x5=>(81,⟨mkE [(2,.ref 0 0),(4,.ref 1 0),(8,(zg x0)),(9,.own 4),(10,(zg x1)),(58,(zg v0.length)),(59,(zg x2))] 190 0,[.cells 104 [(zg 0),.v (.slice none 0 0),.v (.slice none 0 0),(zg 0)],.cells 104 [(zg x3),.own 2,.own 3,(zg 0)],.row 140 .sPartitionPlace [(4,3)] [] x4,.row 189 .sChannelPlace [(4,209)] [] x5,.arr 182 .sBulkheadref15Piece v0],GL,0,[],(fun e=>match e with | 140=>[(4,3)] | 189=>[(4,209)] | _=>[])⟩)
def zl3(c:za):L51->Tree L51 R51 | .l0 x0 x1 =>let y1:=zH x1 x0.toNat;.c (decide (x0<c.qw.length)) (.b (zCb c x0) fun r2=>.g (zO x0 x1.length) <| .g (zO x0 (List.set x1 x0.toNat (⟨y1.lock,y1.qn,r2.1,y1.port,y1.qa⟩:zF)).length) <| .j (.l0 (i64.wrap (x0+1)) (List.set (List.set x1 x0.toNat (⟨y1.lock,y1.qn,r2.1,y1.port,y1.qa⟩:zF)) x0.toNat (⟨(zH (List.set x1 x0.toNat (⟨y1.lock,y1.qn,r2.1,y1.port,y1.qa⟩:zF)) x0.toNat).lock,(zH (List.set x1 x0.toNat (⟨y1.lock,y1.qn,r2.1,y1.port,y1.qa⟩:zF)) x0.toNat).qn,(zH (List.set x1 x0.toNat (⟨y1.lock,y1.qn,r2.1,y1.port,y1.qa⟩:zF)) x0.toNat).qk,r2.2,(zH (List.set x1 x0.toNat (⟨y1.lock,y1.qn,r2.1,y1.port,y1.qa⟩:zF)) x0.toNat).qa⟩:zF)))) (.b (zjv c) fun r3=>.j (.l4 r3 0 (i64.wrap (16*c.kernel)) 0 0 (List.replicate (c.qq.length:Int).toNat (⟨0,0,0,0,[]⟩:zk)) x1)) | .l4 v0 x0 x1 x2 x3 x4 x5 =>let y1:=zbB v0 x2.toNat;let y3:=y1.qT.index;let y4:=i64.wrap (y1.at_+y1.size);let y6:=(y1.qT.kind:Int);let y7:=zH x5 x0.toNat;let y8:=zO y3 x4.length;let y9:=y3.toNat;let y2:=zn x4 y9;let y5:=zH x5 y9;let y10:=(⟨y1.qT.index,y1.qT.port,y1.at_⟩:zaX);let y11:=bop .quo .i64 (y1.at_) 16;let y12:=(y7.qa:List zaX);let y13:=(y2.qs:List Int);.c (decide (x2<v0.length)) (.g (zO x2 v0.length) <| .c (y6==2) (.j (.l81 v0 x0 y4 x2 (y1.at_) x4 x5)) (.c (y6==3) (.g y8 <| .j (.l81 v0 x0 y4 x2 x3 (List.set x4 y9 (⟨y1.at_,y2.save,y2.state,y2.root,y2.qs⟩:zk)) x5)) (.c (y6==4) (.g y8 <| .j (.l81 v0 x0 y4 x2 x3 (List.set x4 y9 (⟨y2.lock,y1.at_,y2.state,y2.root,y2.qs⟩:zk)) x5)) (.c (y6==5) (.g y8 <| .j (.l81 v0 x0 y4 x2 x3 (List.set x4 y9 (⟨y2.lock,y2.save,y1.at_,y2.root,y2.qs⟩:zk)) x5)) (.c (y6==6) (.g (zO y3 x5.length) <| .j (.l81 v0 y3 y4 x2 x3 x4 (List.set x5 y9 (⟨y1.at_,y5.qn,y5.qk,y5.port,y5.qa⟩:zF)))) (.c (y6==7) (.g (zO y3 x5.length) <| .j (.l81 v0 x0 y4 x2 x3 x4 (List.set x5 y9 (⟨y5.lock,y1.at_,y5.qk,y5.port,y5.qa⟩:zF)))) (.c (y6==8) (.g (zO x0 x5.length) <| .g (leB ((y12.length+([y10]:List zaX).length)*24) 140737488355328) <| .g (zO x0 x5.length) <| .g (Nat.beq x0.toNat x0.toNat) <| .j (.l81 v0 x0 y4 x2 x3 x4 (List.set x5 x0.toNat (⟨y7.lock,y7.qn,y7.qk,y7.port,(y12++[y10])⟩:zF)))) (.c (y6==9) (.g y8 <| .c ((y2.root:Int)==0) (.g y8 <| .j (.l81 v0 x0 y4 x2 x3 (List.set x4 y9 (⟨y2.lock,y2.save,y2.state,y11,y2.qs⟩:zk)) x5)) (.g y8 <| .g (leB ((y13.length+([y11]:List Int).length)*8) 140737488355328) <| .g y8 <| .g (Nat.beq y9 y9) <| .j (.l81 v0 x0 y4 x2 x3 (List.set x4 y9 (⟨y2.lock,y2.save,y2.state,y2.root,(y13++[y11])⟩:zk)) x5))) (.j (.l81 v0 x0 y4 x2 x3 x4 x5)))))))))) (.r ((⟨x3,x4,x5,(bop .quo .i64 (i64.wrap ((i64.wrap (x1+16))-1)) 16)⟩:zaR),0)) | .l81 v0 x0 x1 x2 x3 x4 x5=>.j (.l4 v0 x0 x1 (i64.wrap (x2+1)) x3 x4 x5)
def zEX(c:za):Tree L51 R51:=.b (znG c) fun r1=>.c (!r1) (.r ((⟨0,[],[],0⟩:zaR),150)) (.g (decide ((c.qq.length:Int)=c.qq.length)&&decide (0<=c.qq.length)&&leB ((c.qq.length:Int).toNat*56) 140737488355328) <| .g (decide ((c.qw.length:Int)=c.qw.length)&&decide (0<=c.qw.length)&&leB ((c.qw.length:Int).toNat*56) 140737488355328) <| .j (.l0 0 (List.replicate (c.qw.length:Int).toNat (⟨0,0,0,0,[]⟩:zF))))
def zjh(c:za):L51->Option R51:=zal (zl3 c)
theorem zgK(c:za)(l:L51):zjh c l=(zl3 c l).run (zjh c):=zE _ l
def zgU(c:za):Option R51:=(zEX c).run (zjh c)
theorem zN6(c:za):Oks 51 [.agg (Ty.enc .sConfig c)] [] (zgU c) to51:=zL GC2 (H:=H51) zJ Tryz.func51 rfl (by kernel_rfl) (st51 c) (fun J l=>by cases l <;> kernel_rfl) (fun J=>by kernel_rfl)
abbrev R163:=zlo × Int
def zQu(r:R163):Ans:=⟨.tup [.agg [(zg r.1.page),(zg r.1.frame),(zg r.1.qv)],(zg r.2)],[]⟩
def zik(m:(Option ze))(root:Int)(page:Int):Option R163:=Tree.run0 <|
 .c m.isNone
 (.r ((⟨0,0,0⟩:zlo),3))
 (.b (zkp m root) fun r1=>
 .c (!r1)
 (.r ((⟨0,0,0⟩:zlo),91))
 (.c (decide ((page:Int)<0))
 (.r ((⟨0,0,0⟩:zlo),92))
 (.c (decide ((page:Int)>=256))
 (.r ((⟨0,0,0⟩:zlo),92))
 (.b (zkq m root (bop .quo .i64 page 16)) fun r2=>
 .c (!((r2.2.2:Int)==0))
 (.r ((⟨0,0,0⟩:zlo),r2.2.2))
 (.b (zkq m r2.1 (bop .rem .i64 page 16)) fun r3=>
 .c (!((r3.2.2:Int)==0))
 (.r ((⟨0,0,0⟩:zlo),r3.2.2))
 (.r ((⟨page,r3.1,r3.2.1⟩:zlo),0)))))))
theorem zIS(m:(Option ze))(root:Int)(page:Int):Oks 163 [.op .sMemMemory m,(zg root),(zg page)] [] (zik m root page) zQu:=zM GC2 (H:=H0) zJ Tryz.func163 rfl (by kernel_rfl) (fun J=>by kernel_rfl)
abbrev zGH:=zU × Int × ze
def zF3(r:zGH):Ans:=⟨.tup [.agg [(zu r.1.first),(zu r.1.lost),.own 2],(zg r.2.1)],[.cells 112 [.own 1],.arr 46 (.i .u32) r.2.2.qx,.arr 53 (.sl (.i .u32)) r.1.qd]⟩
def H213:zab:=⟨fun _=>false,fun _=>⟨[],[]⟩,[(.cell 0 2,.own 53 (.sl (.i .u32)))],G0,zN⟩
def zgP(f:zy)(pl:Int)(ws:List Int):Option zGH:=Tree.run0 <|
 .b (zeD f (some (⟨ws⟩:ze)) pl 1) fun r1=>
 .c (!r1)
 (.r ((⟨0,0,[]⟩:zU),51,(⟨ws⟩:ze)))
 (.b (zgQ f pl ws) fun r2=>
 .c (!r2.2.1)
 (.r ((⟨0,0,[]⟩:zU),201,r2.2.2))
 (.r (r2.1,0,r2.2.2)))
theorem zJk(f:zy)(pl:Int)(ws:List Int):Oks 213 [.agg [(zg f.qx),(zg f.qy)],.ref 0 0,(zg pl)] [.cells 112 [.own 1],.arr 46 (.i .u32) ws] (zgP f pl ws) zF3:=zM GC2 (H:=H213) zJ Tryz.func213 rfl (by kernel_rfl) (fun J=>by kernel_rfl)
abbrev R67:=zaN × Int × zah
def to67(r:R67):Ans:=⟨.tup [.agg [(zu r.1.one),(zu r.1.two),(zu r.1.three)],(zg r.2.1)],[.cells 116 [.op .sCallsCalls r.2.2.calls,.ref 1 0,(zg r.2.2.p),(zg r.2.2.qu),(zu r.2.2.x.qz.e0),(zu r.2.2.x.qz.e1),(zu r.2.2.x.qz.e2),(zu r.2.2.x.qz.e3),(zu r.2.2.x.qz.e4),(zu r.2.2.x.qz.e5),(zu r.2.2.x.qz.e6),(zu r.2.2.x.qz.e7),(zu r.2.2.x.qz.e8),(zu r.2.2.x.qz.e9),(zu r.2.2.x.qz.e10),(zu r.2.2.x.qz.e11),(zu r.2.2.x.qz.e12),(zu r.2.2.x.qz.e13),(zu r.2.2.x.qz.e14),(zu r.2.2.x.qz.e15),(zu r.2.2.x.pC)],.cells 112 [.own 2],.arr 46 (.i .u32) ((r.2.2.m.getD default).qx)]⟩
def ztn(s:(Option zr))(p:Int)(qu:Int)(x:zB)(ws:List Int):Option R67:=Tree.run0 <|
 .g s.isSome <|
 .b (znh ((s.getD default).qf) p ws) fun r1=>
 .r ((zi8 r1.1),r1.2.1,(⟨s,(some r1.2.2),p,qu,x⟩:zah))
theorem zOm(s:(Option zr))(p:Int)(qu:Int)(x:zB)(ws:List Int):Oks 67 [.ref 0 0] [.cells 116 [.op .sCallsCalls s,.ref 1 0,(zg p),(zg qu),(zu x.qz.e0),(zu x.qz.e1),(zu x.qz.e2),(zu x.qz.e3),(zu x.qz.e4),(zu x.qz.e5),(zu x.qz.e6),(zu x.qz.e7),(zu x.qz.e8),(zu x.qz.e9),(zu x.qz.e10),(zu x.qz.e11),(zu x.qz.e12),(zu x.qz.e13),(zu x.qz.e14),(zu x.qz.e15),(zu x.pC)],.cells 112 [.own 2],.arr 46 (.i .u32) ws] (ztn s p qu x ws) to67:=zM GC2 (H:=H0) zJ Tryz.func67 rfl (by kernel_rfl) (fun J=>by kernel_rfl)
abbrev R120:=zx
def zPV(r:R120):Ans:=⟨.agg [(zg r.e),(zg r.where_.first),(zg r.where_.second)],[]⟩
def zq0(a:za)(a_1:Int):Option R120:=Tree.run0 <|
 .b (zq1 a a_1) fun r1=>
 .r r1
theorem zBn(a:za)(a_1:Int):Oks 120 [.op .sConfig (some a),.op (.i .i64) (some a_1)] [] (zq0 a a_1) zPV:=zM GC2 (H:=H0) zJ Tryz.func120 rfl (by kernel_rfl) (fun J=>by kernel_rfl)
abbrev R38:=zaF × Int
def to38(r:R38):Ans:=⟨.tup [.agg [(zg r.1.kind),(zg r.1.index),(zg r.1.port)],(zg r.2)],[]⟩
inductive L38 where | l0 (v0:R71) (x0:Int) | l4 (x0:Int) | l8 (x0:Int) (x1:Int) (x2:Int) (x3:Int)
def H38:zab:=htt [] [(0,⟨fgt [1,2,4,6,33,34] 120 0,[]⟩),(4,⟨fgt [1,2,4,67,68] 120 0,[]⟩),(8,⟨fgt [1,2,4,8,67,68,77,78] 120 0,[]⟩)] []
def st38(c:za)(at_1:Int):L38->Nat × St | .l0 v0 x0=>(0,⟨mkE [(1,(zg at_1)),(2,.ref 0 0),(4,.ref 1 0),(6,.own 2),(33,(zg v0.length)),(34,(zg x0))] 120 0,[.cells 26 (Ty.enc .sConfig c),.cells 124 [(zg 0),(zg 0),(zg 0)],.arr 182 .sBulkheadref15Piece v0],GL,0,[],zN⟩) | .l4 x0=>(4,⟨mkE [(1,(zg at_1)),(2,.ref 0 0),(4,.ref 1 0),(67,(zg c.qq.length)),(68,(zg x0))] 120 0,[.cells 26 (Ty.enc .sConfig c),.cells 124 [(zg 0),(zg 0),(zg 0)]],GL,0,[],zN⟩) | .l8 x0 x1 x2 x3=>(8,⟨mkE [(1,(zg at_1)),(2,.ref 0 0),(4,.ref 1 0),(8,(zg x0)),(67,(zg c.qq.length)),(68,(zg x1)),(77,(zg x2)),(78,(zg x3))] 120 0,[.cells 26 (Ty.enc .sConfig c),.cells 124 [(zg 0),(zg 0),(zg 0)]],GL,0,[],zN⟩)
def zkI(c:za)(at_1:Int):L38->Tree L38 R38 | .l0 v0 x0 =>let y1:=zbB v0 x0.toNat;let y2:=zO x0 v0.length;let y3:=i64.wrap (x0+1);.c (decide (x0<v0.length)) (.g y2 <| .c (decide ((y1.at_:Int)<=at_1)) (.g y2 <| .g y2 <| .c (decide ((at_1:Int)<(i64.wrap (y1.at_+y1.size)))) (.g y2 <| .r (y1.qT,0)) (.j (.l0 v0 y3))) (.j (.l0 v0 y3))) (.j (.l4 0)) | .l4 x0=>.c (decide (x0<c.qq.length)) (.g (zO x0 c.qq.length) <| .j (.l8 x0 x0 (((zb c.qq x0.toNat).qe).length) 0)) (.r ((⟨0,0,0⟩:zaF),0)) | .l8 x0 x1 x2 x3 =>let y2:=i64.wrap (x3+1);let y3:=(zb c.qq x0.toNat).qe;let y1:=zi y3 x3.toNat;let y4:=(y1.frame:Int);let y5:=bop .quo .i64 at_1 16;.c (decide (x3<x2)) (.g (zO x0 c.qq.length) <| .g (zO x3 y3.length) <| .c (decide (y4>=0)) (.c (decide (y4<=1024)) (.c (decide (y4<=y5)) (.c (decide ((y5:Int)<(i64.wrap (y1.frame+y1.qc)))) (.r ((⟨1,x0,0⟩:zaF),0)) (.j (.l8 x0 x1 x2 y2))) (.j (.l8 x0 x1 x2 y2))) (.j (.l8 x0 x1 x2 y2))) (.j (.l8 x0 x1 x2 y2))) (.j (.l4 (i64.wrap (x1+1))))
def zEQ(c:za)(at_1:Int):Tree L38 R38:=.b (znG c) fun r1=>.c (!r1) (.r ((⟨0,0,0⟩:zaF),150)) (.c (decide ((at_1:Int)<0)) (.r ((⟨0,0,0⟩:zaF),151)) (.c (decide (((bop .quo .i64 at_1 16):Int)>=c.qr)) (.r ((⟨0,0,0⟩:zaF),151)) (.c (decide (((bop .quo .i64 at_1 16):Int)>=1024)) (.r ((⟨0,0,0⟩:zaF),151)) (.b (zjv c) fun r2=>.j (.l0 r2 0)))))
def zjf(c:za)(at_1:Int):L38->Option R38:=zal (zkI c at_1)
theorem zfo(c:za)(at_1:Int)(l:L38):zjf c at_1 l=(zkI c at_1 l).run (zjf c at_1):=zE _ l
def ztf(c:za)(at_1:Int):Option R38:=(zEQ c at_1).run (zjf c at_1)
theorem zNV(c:za)(at_1:Int):Oks 38 [.agg (Ty.enc .sConfig c),(zg at_1)] [] (ztf c at_1) to38:=zL GC2 (H:=H38) zJ Tryz.func38 rfl (by kernel_rfl) (st38 c at_1) (fun J l=>by cases l <;> kernel_rfl) (fun J=>by kernel_rfl)
abbrev zGK:=Int × ze
def zF7(r:zGK):Ans:=⟨(zg r.1),[.cells 112 [.own 1],.arr 46 (.i .u32) r.2.qx]⟩
def znv(qn:Int)(qx:Int)(message:(List Int))(ws:List Int):Option zGK:=Tree.run0 <|
 .c (!(((zgE (some (⟨ws⟩:ze)) qx):Int)==0))
 (.r ((zgE (some (⟨ws⟩:ze)) qx),(⟨ws⟩:ze)))
 (.b (zfR (some (⟨ws⟩:ze)) qn (i64.wrap (2+qx))) fun r1=>
 .c (!((r1:Int)==0))
 (.r (r1,(⟨ws⟩:ze)))
 (.c (decide ((message.length:Int)<1))
 (.r (190,(⟨ws⟩:ze)))
 (.c (decide ((message.length:Int)>qx))
 (.r (190,(⟨ws⟩:ze)))
 (.b (zc3 (some (⟨ws⟩:ze)) qn qx 2) fun r2=>
 .c (!((r2.2:Int)==0))
 (.r (r2.2,(⟨ws⟩:ze)))
 (.g (decide (((i64.wrap (2+qx)):Int)=(i64.wrap (2+qx)))&&decide (0<=(i64.wrap (2+qx)))&&leB ((i64.wrap (2+qx)).toNat*4) 140737488355328) <|
 .g (zO 0 (List.replicate (i64.wrap (2+qx)).toNat (0:Int)).length) <|
 .g (zO 1 (List.set (List.replicate (i64.wrap (2+qx)).toNat (0:Int)) 0 1).length) <|
 .g (inS 2 ((List.set (List.set (List.replicate (i64.wrap (2+qx)).toNat (0:Int)) 0 1) 1 (u32.wrap message.length)).length) (List.set (List.set (List.replicate (i64.wrap (2+qx)).toNat (0:Int)) 0 1) 1 (u32.wrap message.length)).length) <|
 .b (ze3 qn (zcH (List.set (List.set (List.replicate (i64.wrap (2+qx)).toNat (0:Int)) 0 1) 1 (u32.wrap message.length)) 2 (List.take (((List.set (List.set (List.replicate (i64.wrap (2+qx)).toNat (0:Int)) 0 1) 1 (u32.wrap message.length)).length:Int).toNat-2) (message:List Int))) ws) fun r3=>
 .r (r3.1,r3.2))))))
theorem zJt(qn:Int)(qx:Int)(message:(List Int))(ws:List Int):Oks 222 [.ref 0 0,(zg qn),(zg qx),.sl (.i .u32) message] [.cells 112 [.own 1],.arr 46 (.i .u32) ws] (znv qn qx message ws) zF7:=zM GC2 (H:=H0) zJ Tryz.func222 rfl (by kernel_rfl) (fun J=>by kernel_rfl)
abbrev zGw:=zy × zU × Int × ze
def zFN(r:zGw):Ans:=⟨.tup [.agg [(zg r.1.qx),(zg r.1.qy)],.agg [(zu r.2.1.first),(zu r.2.1.lost),.own 2],(zg r.2.2.1)],[.cells 112 [.own 1],.arr 46 (.i .u32) r.2.2.2.qx,.arr 53 (.sl (.i .u32)) r.2.1.qd]⟩
def H164:zab:=⟨fun _=>false,fun _=>⟨[],[]⟩,[(.cell 1 2,.own 53 (.sl (.i .u32)))],G0,zN⟩
def ze1(pl:Int)(qx:Int)(qy:Int)(ws:List Int):Option zGw:=Tree.run0 <|
 .c (!(((zgD (some (⟨ws⟩:ze)) (⟨qx,qy⟩:zy)):Int)==0))
 (.r ((⟨qx,qy⟩:zy),(⟨0,0,[]⟩:zU),(zgD (some (⟨ws⟩:ze)) (⟨qx,qy⟩:zy)),(⟨ws⟩:ze)))
 (.b (zeD (⟨qx,qy⟩:zy) (some (⟨ws⟩:ze)) pl 3) fun r1=>
 .c (!r1)
 (.r ((⟨qx,qy⟩:zy),(⟨0,0,[]⟩:zU),51,(⟨ws⟩:ze)))
 (.b (zgO (⟨qx,qy⟩:zy) pl ws) fun r2=>
 .c (!r2.2.1)
 (.r ((⟨qx,qy⟩:zy),(⟨0,0,[]⟩:zU),201,r2.2.2))
 (.r ((⟨qx,qy⟩:zy),r2.1,0,r2.2.2))))
theorem zIT(pl:Int)(qx:Int)(qy:Int)(ws:List Int):Oks 164 [.ref 0 0,(zg pl),(zg qx),(zg qy)] [.cells 112 [.own 1],.arr 46 (.i .u32) ws] (ze1 pl qx qy ws) zFN:=zM GC2 (H:=H164) zJ Tryz.func164 rfl (by kernel_rfl) (fun J=>by kernel_rfl)
abbrev R223:=Int × Int
def zQL(r:R223):Ans:=⟨.tup [(zg r.1),(zg r.2)],[]⟩
def zuM(m:(Option ze))(qn:Int)(qx:Int):Option R223:=Tree.run0 <|
 .c (!(((zgE m qx):Int)==0))
 (.r (0,(zgE m qx)))
 (.b (zc3 m qn qx 2) fun r1=>
 .r ((mn r1.1.length 1),r1.2))
theorem zJu(m:(Option ze))(qn:Int)(qx:Int):Oks 223 [.op .sMemMemory m,(zg qn),(zg qx)] [] (zuM m qn qx) zQL:=zM GC2 (H:=H0) zJ Tryz.func223 rfl (by kernel_rfl) (fun J=>by kernel_rfl)
abbrev zxl:=ze
def zFO(r:zxl):Ans:=⟨.tup [],[.cells 112 [.own 1],.arr 46 (.i .u32) r.qx]⟩
inductive zw4 where | l7 (x0:Int)
def H165:zab:=htt [3] [(7,⟨fgt [1,2,4,7] 27 0,[]⟩)] []
def zPr(f:zy)(pl:Int)(row:zU)(ws:List Int):zw4->Nat × St | .l7 x0=>(7,⟨mkE [(1,.ref 0 0),(2,(zg pl)),(4,.ref 2 0),(7,.ref 3 0)] 27 0,[.cells 112 [.own 1],.arr 46 (.i .u32) ws,.cells 299 [(zg f.qx),(zg f.qy)],.cells 301 [(zu x0),(zu row.lost),.sl (.sl (.i .u32)) row.qd]],GL,2,[],zN⟩)
def ztV(f:zy)(pl:Int)(row:zU)(ws:List Int):zw4->Tree zw4 zxl | .l7 x0=>.b (ze2 f pl (⟨x0,row.lost,row.qd⟩:zU) [x0,(u32.wrap row.qd.length),row.lost] ws) fun r1=>.r r1
def zAe(f:zy)(pl:Int)(row:zU)(ws:List Int):Tree zw4 zxl:=.c ((row.qd.length:Int)==0) (.j (.l7 0)) (.j (.l7 row.first))
def zkj(f:zy)(pl:Int)(row:zU)(ws:List Int):zw4->Option zxl:=zal (ztV f pl row ws)
theorem zyn(f:zy)(pl:Int)(row:zU)(ws:List Int)(l:zw4):zkj f pl row ws l=(ztV f pl row ws l).run (zkj f pl row ws):=zE _ l
def zgN(f:zy)(pl:Int)(row:zU)(ws:List Int):Option zxl:=(zAe f pl row ws).run (zkj f pl row ws)
theorem zIU(f:zy)(pl:Int)(row:zU)(ws:List Int):Oks 165 [.agg [(zg f.qx),(zg f.qy)],.ref 0 0,(zg pl),.agg (Ty.enc .sQueueRow row)] [.cells 112 [.own 1],.arr 46 (.i .u32) ws] (zgN f pl row ws) zFO:=zL GC2 (H:=H165) zJ Tryz.func165 rfl (by kernel_rfl) (zPr f pl row ws) (fun J l=>by cases l <;> kernel_rfl) (fun J=>by kernel_rfl)
abbrev R85:=Int × za0
def to85(r:R85):Ans:=⟨.tup [(zg r.1),.agg [(zg r.2.first),(zg r.2.second)]],[]⟩
inductive L85 where | l2 (x0:Int) | l6 (x0:Int)
def H85:zab:=htt [] [(2,⟨fgt [1,2,5,6,7] 107 0,[]⟩),(6,⟨fgt [1,2,5,6,9] 107 0,[]⟩)] []
def st85(c:za)(p:Int):L85->Nat × St | .l2 x0=>(2,⟨mkE [(1,(zg p)),(2,.ref 0 0),(5,.ref 1 0),(6,.ref 2 0),(7,(zg x0))] 107 0,[.cells 26 (Ty.enc .sConfig c),.cells 144 [(zg 0),(zg 0)],.cells 72 (Ty.enc .sPartition (zb c.qq p.toNat))],GL,0,[],zN⟩) | .l6 x0=>(6,⟨mkE [(1,(zg p)),(2,.ref 0 0),(5,.ref 1 0),(6,.ref 2 0),(9,(zg x0))] 107 0,[.cells 26 (Ty.enc .sConfig c),.cells 144 [(zg 0),(zg 0)],.cells 72 (Ty.enc .sPartition (zb c.qq p.toNat))],GL,0,[],zN⟩)
def zom(c:za)(p:Int):L85->Tree L85 R85 | .l2 x0 =>let y1:=zb c.qq p.toNat;.c (decide (x0<(y1.qe).length)) (.b (zq8 c p x0) fun r2=>.c (!((r2:Int)==0)) (.r (r2,(⟨p,x0⟩:za0))) (.j (.l2 (i64.wrap (x0+1))))) (.b (znk y1) fun r3=>.c (!r3) (.r (412,(zlv p))) (.c (decide (((y1.qt).length:Int)>8)) (.r (413,(zlv p))) (.j (.l6 0)))) | .l6 x0 =>let y1:=(zb c.qq p.toNat).qt;.c (decide (x0<y1.length)) (.g (zO x0 y1.length) <| .c (!(zaQ ((zbe y1 x0.toNat).ql) 0 (i64.wrap (c.qw.length-1)))) (.r (414,(⟨p,x0⟩:za0))) (.j (.l6 (i64.wrap (x0+1))))) (.r (0,(⟨0,0⟩:za0)))
def zFa(c:za)(p:Int):Tree L85 R85:=.g (zO p c.qq.length) <| .b (zq7 c p) fun r1=>.c (!r1) (.r (405,(zlv p))) (.c (!(zaQ ((zb c.qq p.toNat).action) 0 2)) (.r (406,(zlv p))) (.c (!(zaQ ((zb c.qq p.toNat).qR) 0 15)) (.r (406,(zlv p))) (.c (!(zaQ ((zb c.qq p.toNat).qE) 0 16)) (.r (407,(zlv p))) (.c (!(zaQ ((zb c.qq p.toNat).qW) 0 16)) (.r (407,(zlv p))) (.c (!(zaQ (((zb c.qq p.toNat).qe).length) 1 8)) (.r (408,(zlv p))) (.j (.l2 0)))))))
def zpr(c:za)(p:Int):L85->Option R85:=zal (zom c p)
theorem zjm(c:za)(p:Int)(l:L85):zpr c p l=(zom c p l).run (zpr c p):=zE _ l
def zwm(c:za)(p:Int):Option R85:=(zFa c p).run (zpr c p)
theorem zOE(c:za)(p:Int):Oks 85 [.agg (Ty.enc .sConfig c),(zg p)] [] (zwm c p) to85:=zL GC2 (H:=H85) zJ Tryz.func85 rfl (by kernel_rfl) (st85 c p) (fun J l=>by cases l <;> kernel_rfl) (fun J=>by kernel_rfl)
abbrev zzd:=Int
def zQP(r:zzd):Ans:=⟨(zg r),[]⟩
inductive zxe where | l0 (x0:Int) | l4 (x0:Int)
def H228:zab:=htt [] [(0,⟨fgt [0,1,2,3,40,41,42] 77 0,[]⟩),(4,⟨fgt [0,2,60,61,62] 77 0,[]⟩)] []
def zPB(m:(Option ze))(qn:Int)(qx:Int)(qt:(List Int)):zxe->Nat × St | .l0 x0=>(0,⟨mkE [(0,.op .sMemMemory m),(1,(zg qn)),(2,(zg qx)),(3,.sl (.i .i64) qt),(40,.sl (.i .i64) qt),(41,(zg qt.length)),(42,(zg x0))] 77 0,[],GL,0,[],zN⟩) | .l4 x0=>(4,⟨mkE [(0,.op .sMemMemory m),(2,(zg qx)),(60,.sl (.i .i64) qt),(61,(zg qt.length)),(62,(zg x0))] 77 0,[],GL,0,[],zN⟩)
def zjO(m:(Option ze))(qn:Int)(qx:Int)(qt:(List Int)):zxe->Tree zxe zzd | .l0 x0=>.c (decide (x0<qt.length)) (.g (zO x0 qt.length) <| .b (zfR m (zt qt x0.toNat) (i64.wrap (3+qx))) fun r2=>.c (!((r2:Int)==0)) (.r r2) (.j (.l0 (i64.wrap (x0+1))))) (.b (zny qn qx qt) fun r3=>.c (!r3) (.r 191) (.j (.l4 0))) | .l4 x0=>.c (decide (x0<qt.length)) (.g (zO x0 qt.length) <| .b (zc3 m (zt qt x0.toNat) qx 3) fun r4=>.c (!((r4.2:Int)==0)) (.r r4.2) (.j (.l4 (i64.wrap (x0+1))))) (.r 0)
def zAo(m:(Option ze))(qn:Int)(qx:Int)(qt:(List Int)):Tree zxe zzd:=.c (!(((zgE m qx):Int)==0)) (.r (zgE m qx)) (.c (decide ((qt.length:Int)<1)) (.r 1) (.c (decide ((qt.length:Int)>4)) (.r 1) (.b (zfR m qn (i64.wrap (2+qx))) fun r1=>.c (!((r1:Int)==0)) (.r r1) (.j (.l0 0)))))
def zgI(m:(Option ze))(qn:Int)(qx:Int)(qt:(List Int)):zxe->Option zzd:=zal (zjO m qn qx qt)
theorem zhp(m:(Option ze))(qn:Int)(qx:Int)(qt:(List Int))(l:zxe):zgI m qn qx qt l=(zjO m qn qx qt l).run (zgI m qn qx qt):=zE _ l
def znw(m:(Option ze))(qn:Int)(qx:Int)(qt:(List Int)):Option zzd:=(zAo m qn qx qt).run (zgI m qn qx qt)
theorem zJz(m:(Option ze))(qn:Int)(qx:Int)(qt:(List Int)):Oks 228 [.op .sMemMemory m,(zg qn),(zg qx),.sl (.i .i64) qt] [] (znw m qn qx qt) zQP:=zL GC2 (H:=H228) zJ Tryz.func228 rfl (by kernel_rfl) (zPB m qn qx qt) (fun J l=>by cases l <;> kernel_rfl) (fun J=>by kernel_rfl)
abbrev R221:=(List Int) × Bool × Bool × Int
def zQK(r:R221):Ans:=⟨.tup [.own 0,(avB r.2.1),(avB r.2.2.1),(zg r.2.2.2)],[.arr 46 (.i .u32) r.1]⟩
def H221:zab:=⟨fun _=>false,fun _=>⟨[],[]⟩,[(.slot 0,.own 46 (.i .u32))],G0,zN⟩
def zuL(m:(Option ze))(port:Int)(qx:Int):Option R221:=Tree.run0 <|
 .c (!(((zgE m qx):Int)==0))
 (.r ([],false,false,(zgE m qx)))
 (.b (zc3 m port qx 3) fun r1=>
 .c (!((r1.2:Int)==0))
 (.r ([],false,false,r1.2))
 (.c ((r1.1.length:Int)==0)
 (.r ([],false,false,r1.2))
 (.b (zeE m (i64.wrap (port+1))) fun r2=>
 .r (r1.1,((r2.1:Int)==1),true,0))))
theorem zJs(m:(Option ze))(port:Int)(qx:Int):Oks 221 [.op .sMemMemory m,(zg port),(zg qx)] [] (zuL m port qx) zQK:=zM GC2 (H:=H221) zJ Tryz.func221 rfl (by kernel_rfl) (fun J=>by kernel_rfl)
abbrev zGs:=Int × ze
def zFK(r:zGs):Ans:=⟨(zg r.1),[.cells 112 [.own 1],.arr 46 (.i .u32) r.2.qx]⟩
def zko(w:(Option zae))(p:Int)(state:Int)(ws:List Int):Option zGs:=Tree.run0 <|
 .b (znq w p false ws) fun r1=>
 .c (!((r1.2.2.1:Int)==0))
 (.r (r1.2.2.1,r1.2.2.2))
 (.b (zdP (i64.wrap (r1.1.place.state+0)) state r1.2.2.2.qx) fun r2=>
 .r (r2.1,r2.2))
theorem zIy(w:(Option zae))(p:Int)(state:Int)(ws:List Int):Oks 143 [.op .sHealthWards w,.ref 0 0,(zg p),(zu state)] [.cells 112 [.own 1],.arr 46 (.i .u32) ws] (zko w p state ws) zFK:=zM GC2 (H:=H0) zJ Tryz.func143 rfl (by kernel_rfl) (fun J=>by kernel_rfl)
abbrev R158:=Int × Int
def zQq(r:R158):Ans:=⟨.tup [(zg r.1),(zg r.2)],[]⟩
def znp(c:za):Option R158:=Tree.run0 <|
 .b (zc4 c) fun r2=>
 .c (!((r2.2:Int)==0))
 (.r (0,r2.2))
 (.r ((i64.wrap (r2.1.end_-c.kernel)),0))
theorem zIN(c:za):Oks 158 [.agg (Ty.enc .sConfig c)] [] (znp c) zQq:=zM GC2 (H:=H0) zJ Tryz.func158 rfl (by kernel_rfl) (fun J=>by kernel_rfl)
def k38:Fk 38:=aF (aS .sConfig fun a0=>aL (.i .i64) fun a1=>aE (zNV a0 a1))
def k51:Fk 51:=aF (aS .sConfig fun a0=>aE (zN6 a0))
def g67(args:List AV)(hp:List Blk):Option Rsp:=
 match args,hp with
 | [.ref 0 0],[.cells 116 [.op .sCallsCalls y0,.ref 1 0,.v (.int .i64 y1),.v (.int .i64 y2),.v (.int .u32 y3),.v (.int .u32 y4),.v (.int .u32 y5),.v (.int .u32 y6),.v (.int .u32 y7),.v (.int .u32 y8),.v (.int .u32 y9),.v (.int .u32 y10),.v (.int .u32 y11),.v (.int .u32 y12),.v (.int .u32 y13),.v (.int .u32 y14),.v (.int .u32 y15),.v (.int .u32 y16),.v (.int .u32 y17),.v (.int .u32 y18),.v (.int .u32 y19)],.cells 112 [.own 2],.arr 46 (.i .u32) y20]=>some ⟨R67,(ztn y0 y1 y2 (⟨(⟨y3,y4,y5,y6,y7,y8,y9,y10,y11,y12,y13,y14,y15,y16,y17,y18⟩:z6),y19⟩:zB) y20),to67,default⟩
 | _,_=>none
def k67:Fk 67:=⟨g67,fun args hp y h x hx=>by
 unfold g67 at h
 split at h
 . cases h;exact(zOm _ _ _ _ _).ats (.cons (fun _ _ _ _ h=>h) .nil) hx
 . cases h⟩
def k85:Fk 85:=aF (aS .sConfig fun a0=>aL (.i .i64) fun a1=>aE (zOE a0 a1))
def k120:Fk 120:=aF (aP .sConfig fun a0=>aP (.i .i64) fun a1=>aE (zBn a0 a1))
def g143(args:List AV)(hp:List Blk):Option Rsp:=
 match args,hp with
 | [a0,.ref 0 0,a2,a3],[.cells 112 [.own 1],.arr 46 (.i .u32) y0]=>(rdL (.p .sHealthWards) a0).bind fun b0=>(rdL (.i .i64) a2).bind fun b2=>(rdL (.i .u32) a3).bind fun b3=>some ⟨zGs,(zko b0 b2 b3 y0),zFK,default⟩
 | _,_=>none
def k143:Fk 143:=⟨g143,fun args hp y h x hx=>by
 unfold g143 at h
 split at h
 . simp only[Option.bind_eq_some_iff]at h
   obtain ⟨b0,h0,b2,h2,b3,h3,h⟩:=h
   cases h;exact(zIy b0 b2 b3 _).ats (.cons (z9 h0) (.cons (fun _ _ _ _ h=>h) (.cons (z9 h2) (.cons (z9 h3) .nil)))) hx
 . cases h⟩
def k158:Fk 158:=aF (aS .sConfig fun a0=>aE (zIN a0))
def k163:Fk 163:=aF (aL (.p .sMemMemory) fun a0=>aL (.i .i64) fun a1=>aL (.i .i64) fun a2=>aE (zIS a0 a1 a2))
def g164(args:List AV)(hp:List Blk):Option Rsp:=
 match args,hp with
 | [.ref 0 0,a1,a2,a3],[.cells 112 [.own 1],.arr 46 (.i .u32) y0]=>(rdL (.i .i64) a1).bind fun b1=>(rdL (.i .i64) a2).bind fun b2=>(rdL (.i .i64) a3).bind fun b3=>some ⟨zGw,(ze1 b1 b2 b3 y0),zFN,default⟩
 | _,_=>none
def k164:Fk 164:=⟨g164,fun args hp y h x hx=>by
 unfold g164 at h
 split at h
 . simp only[Option.bind_eq_some_iff]at h
   obtain ⟨b1,h1,b2,h2,b3,h3,h⟩:=h
   cases h;exact(zIT b1 b2 b3 _).ats (.cons (fun _ _ _ _ h=>h) (.cons (z9 h1) (.cons (z9 h2) (.cons (z9 h3) .nil)))) hx
 . cases h⟩
def g165(args:List AV)(hp:List Blk):Option Rsp:=
 match args,hp with
 | [a0,.ref 0 0,a2,a3],[.cells 112 [.own 1],.arr 46 (.i .u32) y0]=>(rdS .sQueueForm a0).bind fun b0=>(rdL (.i .i64) a2).bind fun b2=>(rdS .sQueueRow a3).bind fun b3=>some ⟨zxl,(zgN b0 b2 b3 y0),zFO,default⟩
 | _,_=>none
def k165:Fk 165:=⟨g165,fun args hp y h x hx=>by
 unfold g165 at h
 split at h
 . simp only[Option.bind_eq_some_iff]at h
   obtain ⟨b0,h0,b2,h2,b3,h3,h⟩:=h
   cases h;exact(zIU b0 b2 b3 _).ats (.cons (zcy h0) (.cons (fun _ _ _ _ h=>h) (.cons (z9 h2) (.cons (zcy h3) .nil)))) hx
 . cases h⟩
def g213(args:List AV)(hp:List Blk):Option Rsp:=
 match args,hp with
 | [a0,.ref 0 0,a2],[.cells 112 [.own 1],.arr 46 (.i .u32) y0]=>(rdS .sQueueForm a0).bind fun b0=>(rdL (.i .i64) a2).bind fun b2=>some ⟨zGH,(zgP b0 b2 y0),zF3,default⟩
 | _,_=>none
def k213:Fk 213:=⟨g213,fun args hp y h x hx=>by
 unfold g213 at h
 split at h
 . simp only[Option.bind_eq_some_iff]at h
   obtain ⟨b0,h0,b2,h2,h⟩:=h
   cases h;exact(zJk b0 b2 _).ats (.cons (zcy h0) (.cons (fun _ _ _ _ h=>h) (.cons (z9 h2) .nil))) hx
 . cases h⟩
def k221:Fk 221:=aF (aL (.p .sMemMemory) fun a0=>aL (.i .i64) fun a1=>aL (.i .i64) fun a2=>aE (zJs a0 a1 a2))
def g222(args:List AV)(hp:List Blk):Option Rsp:=
 match args,hp with
 | [.ref 0 0,a1,a2,a3],[.cells 112 [.own 1],.arr 46 (.i .u32) y0]=>(rdL (.i .i64) a1).bind fun b1=>(rdL (.i .i64) a2).bind fun b2=>(rdL (.sl (.i .u32)) a3).bind fun b3=>some ⟨zGK,(znv b1 b2 b3 y0),zF7,default⟩
 | _,_=>none
def k222:Fk 222:=⟨g222,fun args hp y h x hx=>by
 unfold g222 at h
 split at h
 . simp only[Option.bind_eq_some_iff]at h
   obtain ⟨b1,h1,b2,h2,b3,h3,h⟩:=h
   cases h;exact(zJt b1 b2 b3 _).ats (.cons (fun _ _ _ _ h=>h) (.cons (z9 h1) (.cons (z9 h2) (.cons (z9 h3) .nil)))) hx
 . cases h⟩
def k223:Fk 223:=aF (aL (.p .sMemMemory) fun a0=>aL (.i .i64) fun a1=>aL (.i .i64) fun a2=>aE (zJu a0 a1 a2))
def k228:Fk 228:=aF (aL (.p .sMemMemory) fun a0=>aL (.i .i64) fun a1=>aL (.i .i64) fun a2=>aL (.sl (.i .i64)) fun a3=>aE (zJz a0 a1 a2 a3))
def GC3:GK:=zhZ [⟨38,k38⟩,⟨51,k51⟩,⟨67,k67⟩,⟨85,k85⟩,⟨120,k120⟩,⟨143,k143⟩,⟨158,k158⟩,⟨163,k163⟩,⟨164,k164⟩,⟨165,k165⟩,⟨213,k213⟩,⟨221,k221⟩,⟨222,k222⟩,⟨223,k223⟩,⟨228,k228⟩] GC2
abbrev zxp:=Int × ze
def zF2(r:zxp):Ans:=⟨(zg r.1),[.cells 112 [.own 1],.arr 46 (.i .u32) r.2.qx]⟩
inductive zxb where | l0 (x0:Bool) (x1:Int) | l4 (v0:znZ) (x0:Bool) (x1:Int) (x2:List Int) (x3:List zU) | l8 (v0:znZ) (x0:Int) (x1:List Int) (x2:List zU) (x3:Nat) | l12 (v0:znZ) (x0:Int) (x1:Int) (x2:Int) (x3:List Int) (x4:List zU) (x5:Nat) (x6:Int) (x7:Int) (x8:List (List Int)) | l75 (v0:znZ) (x0:Int) (x1:Int) (x2:Int) (x3:List Int) (x4:List zU) (x5:Nat) (x6:Int) (x7:Int) (x8:List (List Int))
def H212:zab:=⟨fun n=>[37].any (Nat.beq n),zfi [(0,⟨fgt [0,1,3,4,11,13,44,45,46] 142 0,[]⟩),(4,⟨fgt [0,1,3,4,11,16,17,18,67,68,69] 142 0,[(.slot 18,.own 301 .sQueueRow)]⟩),(8,⟨fgt [0,1,3,11,16,18,91,92,93] 142 0,[(.slot 18,.low 2)]⟩),(12,⟨fgt [0,1,3,11,16,18,24,25,91,92,93,103,104,105] 142 0,[(.slot 18,.low 2)]⟩),(75,⟨fgt [0,1,3,11,16,18,24,25,91,92,93,103,104,105] 142 0,[]⟩)],[],G0,(fun e=>match e with | 301=>[(2,53)] | _=>[])⟩
def zPy(qn:Int)(qx:Int)(qy:Int)(qt:(List Int))(ws:List Int):zxb->Nat × St | .l0 x0 x1=>(0,⟨mkE [(0,.ref 0 0),(1,(zg qn)),(3,(zg qy)),(4,.sl (.i .i64) qt),(11,.ref 2 0),(13,(avB x0)),(44,.sl (.i .i64) qt),(45,(zg qt.length)),(46,(zg x1))] 142 0,[.cells 112 [.own 1],.arr 46 (.i .u32) ws,.cells 299 [(zg qx),(zg qy)]],GL,2,[],(fun e=>match e with | 301=>[(2,53)] | _=>[])⟩) | .l4 v0 x0 x1 x2 x3=>(4,⟨mkE [(0,.ref 0 0),(1,(zg qn)),(3,(zg qy)),(4,.sl (.i .i64) qt),(11,.ref 2 0),(16,.ref 3 0),(17,(avB x0)),(18,.own 5),(67,.sl (.i .i64) qt),(68,(zg qt.length)),(69,(zg x1))] 142 0,[.cells 112 [.own 1],.arr 46 (.i .u32) x2,.cells 299 [(zg qx),(zg qy)],.cells 301 [(zu v0.1.first),(zu v0.1.lost),.own 4],.arr 53 (.sl (.i .u32)) v0.1.qd,.row 301 .sQueueRow [(2,53)] [] x3],GL,2,[],(fun e=>match e with | 301=>[(2,53)] | _=>[])⟩) | .l8 v0 x0 x1 x2 x3=>(8,⟨mkE [(0,.ref 0 0),(1,(zg qn)),(3,(zg qy)),(11,.ref 2 0),(16,.ref 3 0),(18,.own 5),(91,.sl (.i .i64) qt),(92,(zg qt.length)),(93,(zg x0))] 142 0,[.cells 112 [.own 1],.arr 46 (.i .u32) x1,.cells 299 [(zg qx),(zg qy)],.cells 301 [(zu v0.1.first),(zu v0.1.lost),.own 4],.arr 53 (.sl (.i .u32)) v0.1.qd,.row 301 .sQueueRow [(2,53)] [(x3,2,none)] x2],GL,2,[],(fun e=>match e with | 301=>[(2,53)] | _=>[])⟩) | .l12 v0 x0 x1 x2 x3 x4 x5 x6 x7 x8=>(12,⟨mkE [(0,.ref 0 0),(1,(zg qn)),(3,(zg qy)),(11,.ref 2 0),(16,.ref 3 0),(18,.own 5),(24,(zg x0)),(25,.ref 6 0),(91,.sl (.i .i64) qt),(92,(zg qt.length)),(93,(zg x1)),(103,.own 4),(104,(zg v0.1.qd.length)),(105,(zg x2))] 142 0,[.cells 112 [.own 1],.arr 46 (.i .u32) x3,.cells 299 [(zg qx),(zg qy)],.cells 301 [(zu v0.1.first),(zu v0.1.lost),.own 4],.arr 53 (.sl (.i .u32)) v0.1.qd,.row 301 .sQueueRow [(2,53)] [(x5,2,none)] x4,.cells 301 [(zu x6),(zu x7),.own 7],.arr 53 (.sl (.i .u32)) x8],GL,2,[],(fun e=>match e with | 301=>[(2,53)] | _=>[])⟩) | .l75 v0 x0 x1 x2 x3 x4 x5 x6 x7 x8=>(75,⟨mkE [(0,.ref 0 0),(1,(zg qn)),(3,(zg qy)),(11,.ref 2 0),(16,.ref 3 0),(18,.own 5),(24,(zg x0)),(25,.ref 6 0),(91,.sl (.i .i64) qt),(92,(zg qt.length)),(93,(zg x1)),(103,.own 4),(104,(zg v0.1.qd.length)),(105,(zg x2))] 142 0,[.cells 112 [.own 1],.arr 46 (.i .u32) x3,.cells 299 [(zg qx),(zg qy)],.cells 301 [(zu v0.1.first),(zu v0.1.lost),.own 4],.arr 53 (.sl (.i .u32)) v0.1.qd,.row 301 .sQueueRow [(2,53)] [(x5,2,none)] x4,.cells 301 [(zu x6),(zu x7),.own 7],.arr 53 (.sl (.i .u32)) x8],GL,2,[],(fun e=>match e with | 301=>[(2,53)] | _=>[])⟩)
def zem(qn:Int)(qx:Int)(qy:Int)(qt:(List Int))(ws:List Int):zxb->Tree zxb zxp | .l0 x0 x1 =>let y1:=(⟨qx,qy⟩:zy);let y2:=i64.wrap (x1+1);let y3:=(⟨ws⟩:ze);.c (decide (x1<qt.length)) (.g (zO x1 qt.length) <| .c x0 (.b (zeD y1 (some y3) (zt qt x1.toNat) 3) fun r2=>.j (.l0 r2 y2)) (.j (.l0 false y2))) (.c (!x0) (.r (51,y3)) (.b (zgQ y1 qn ws) fun r3=>.j (.l4 r3 r3.2.1 0 r3.2.2.qx []))) | .l4 v0 x0 x1 x2 x3 =>let y1:=(x3:List zU);let y2:=i64.wrap (x1+1);.c (decide (x1<qt.length)) (.g (zO x1 qt.length) <| .b (zgO (⟨qx,qy⟩:zy) (zt qt x1.toNat) x2) fun r4=>.c x0 (.g (leB ((y1.length+([r4.1]:List zU).length)*32) 140737488355328) <| .j (.l4 v0 r4.2.1 y2 r4.2.2.qx (y1++[r4.1]))) (.g (leB ((y1.length+([r4.1]:List zU).length)*32) 140737488355328) <| .j (.l4 v0 false y2 r4.2.2.qx (y1++[r4.1])))) (.c (!x0) (.r (201,(⟨x2⟩:ze))) (.j (.l8 v0 0 x2 x3 0))) | .l8 v0 x0 x1 x2 x3 =>let y1:=zhO x2 x0.toNat;.c (decide (x0<qt.length)) (.g (zO x0 qt.length) <| .g (zO x0 x2.length) <| .g ((Nat.ble x3 x0.toNat&&true)&&true) <| .j (.l12 v0 (zt qt x0.toNat) x0 0 x1 x2 (Nat.max (x0.toNat+1) (Nat.max x3 0)) (y1.first) (y1.lost) (y1.qd))) (.b (ze2 (⟨qx,qy⟩:zy) qn (⟨0,0,[]⟩:zU) [0] x1) fun r5=>.r (0,r5)) | .l12 v0 x0 x1 x2 x3 x4 x5 x6 x7 x8 =>let y1:=(x8:List (List Int));.c (decide (x2<v0.1.qd.length)) (.g (zO x2 v0.1.qd.length) <| .c (decide ((x8.length:Int)<qy)) (.g (leB ((y1.length+([zW v0.1.qd x2.toNat]:List (List Int)).length)*24) 140737488355328) <| .j (.l75 v0 x0 x1 x2 x3 x4 x5 x6 x7 (y1++[zW v0.1.qd x2.toNat]))) (.c (decide (x7<4294967295)) (.j (.l75 v0 x0 x1 x2 x3 x4 x5 x6 (u32.wrap (x7+1)) x8)) (.j (.l75 v0 x0 x1 x2 x3 x4 x5 x6 x7 x8)))) (.b (zgN (⟨qx,qy⟩:zy) x0 (⟨x6,x7,x8⟩:zU) x3) fun r6=>.j (.l8 v0 (i64.wrap (x1+1)) r6.qx x4 (Nat.max x5 0))) | .l75 v0 x0 x1 x2 x3 x4 x5 x6 x7 x8=>.j (.l12 v0 x0 x1 (i64.wrap (x2+1)) x3 x4 (Nat.max x5 0) x6 x7 x8)
def zAl(qn:Int)(qx:Int)(qy:Int)(qt:(List Int))(ws:List Int):Tree zxb zxp:=.c (!(((zgD (some (⟨ws⟩:ze)) (⟨qx,qy⟩:zy)):Int)==0)) (.r ((zgD (some (⟨ws⟩:ze)) (⟨qx,qy⟩:zy)),(⟨ws⟩:ze))) (.c (decide ((qt.length:Int)>4)) (.r (2,(⟨ws⟩:ze))) (.b (zeD (⟨qx,qy⟩:zy) (some (⟨ws⟩:ze)) qn 1) fun r1=>.j (.l0 r1 0)))
def zbQ(qn:Int)(qx:Int)(qy:Int)(qt:(List Int))(ws:List Int):zxb->Option zxp:=zal (zem qn qx qy qt ws)
theorem zci(qn:Int)(qx:Int)(qy:Int)(qt:(List Int))(ws:List Int)(l:zxb):zbQ qn qx qy qt ws l=(zem qn qx qy qt ws l).run (zbQ qn qx qy qt ws):=zE _ l
def zky(qn:Int)(qx:Int)(qy:Int)(qt:(List Int))(ws:List Int):Option zxp:=(zAl qn qx qy qt ws).run (zbQ qn qx qy qt ws)
theorem zJj(qn:Int)(qx:Int)(qy:Int)(qt:(List Int))(ws:List Int):Oks 212 [.ref 0 0,(zg qn),(zg qx),(zg qy),.sl (.i .i64) qt] [.cells 112 [.own 1],.arr 46 (.i .u32) ws] (zky qn qx qy qt ws) zF2:=zL GC3 (H:=H212) zJ Tryz.func212 rfl (by kernel_rfl) (zPy qn qx qy qt ws) (fun J l=>by cases l <;> kernel_rfl) (fun J=>by kernel_rfl)
abbrev R14:=Bool
def to14(r:R14):Ans:=⟨(avB r),[]⟩
inductive L14 where | l0 (x0:Int)
def H14:zab:=htt [] [(0,⟨fgt [2,3,4,5,6,11] 51 0,[]⟩)] []
def st14(c:za)(o:zq)(told:Int)(was:(List Int))(now:(List Int)):L14->Nat × St | .l0 x0=>(0,⟨mkE [(2,(zu told)),(3,.sl (.i .u32) was),(4,.sl (.i .u32) now),(5,.ref 0 0),(6,.ref 1 0),(11,(zg x0))] 51 0,[.cells 26 (Ty.enc .sConfig c),.cells 49 (Ty.enc .sBulkheadlaw25Op o)],GL,0,[],zN⟩)
def zMt(c:za)(o:zq)(told:Int)(was:(List Int))(now:(List Int)):L14->Tree L14 R14 | .l0 x0 =>let y1:=i64.wrap (x0+1);.c (decide (x0<was.length)) (.g (zO x0 was.length) <| .g (zO x0 now.length) <| .c ((zt was x0.toNat:Int)==zt now x0.toNat) (.j (.l0 y1)) (.b (ztf c x0) fun r1=>.c (!((r1.2:Int)==0)) (.r false) (.b (znC c o told x0 r1.1) fun r2=>.c (!r2) (.r false) (.j (.l0 y1))))) (.r true)
def zMz(c:za)(o:zq)(told:Int)(was:(List Int))(now:(List Int)):Tree L14 R14:=.c (!((was.length:Int)==now.length)) (.r false) (.j (.l0 0))
def zO2(c:za)(o:zq)(told:Int)(was:(List Int))(now:(List Int)):L14->Option R14:=zal (zMt c o told was now)
def zpu(c:za)(o:zq)(told:Int)(was:(List Int))(now:(List Int)):Option R14:=(zMz c o told was now).run (zO2 c o told was now)
theorem zNA(c:za)(o:zq)(told:Int)(was:(List Int))(now:(List Int)):Oks 14 [.agg (Ty.enc .sConfig c),.agg (Ty.enc .sBulkheadlaw25Op o),(zu told),.sl (.i .u32) was,.sl (.i .u32) now] [] (zpu c o told was now) to14:=zL GC3 (H:=H14) zJ Tryz.func14 rfl (by kernel_rfl) (st14 c o told was now) (fun J l=>by cases l <;> kernel_rfl) (fun J=>by kernel_rfl)
abbrev zGG:=Int × Int × ze
def zF1(r:zGG):Ans:=⟨.tup [(zg r.1),(zg r.2.1)],[.cells 112 [.own 1],.arr 46 (.i .u32) r.2.2.qx]⟩
def zkx(qn:Int)(qx:Int)(qy:Int)(ws:List Int):Option zGG:=Tree.run0 <|
 .c (!(((zgD (some (⟨ws⟩:ze)) (⟨qx,qy⟩:zy)):Int)==0))
 (.r (0,(zgD (some (⟨ws⟩:ze)) (⟨qx,qy⟩:zy)),(⟨ws⟩:ze)))
 (.b (zgP (⟨qx,qy⟩:zy) qn ws) fun r1=>
 .r (r1.1.qd.length,r1.2.1,r1.2.2))
theorem zJi(qn:Int)(qx:Int)(qy:Int)(ws:List Int):Oks 211 [.ref 0 0,(zg qn),(zg qx),(zg qy)] [.cells 112 [.own 1],.arr 46 (.i .u32) ws] (zkx qn qx qy ws) zF1:=zM GC3 (H:=H0) zJ Tryz.func211 rfl (by kernel_rfl) (fun J=>by kernel_rfl)
abbrev R218:=Int × Int
def zQI(r:R218):Ans:=⟨.tup [(zg r.1),(zg r.2)],[]⟩
def znu(k:zbd)(m:(Option ze)):Option R218:=Tree.run0 <|
 .b (zuM m k.ends.qn k.ends.qx) fun r1=>
 .r (r1.1,r1.2)
theorem zJp(k:zbd)(m:(Option ze)):Oks 218 [.agg (Ty.enc .sDuctLast k),.op .sMemMemory m] [] (znu k m) zQI:=zM GC3 (H:=H0) zJ Tryz.func218 rfl (by kernel_rfl) (fun J=>by kernel_rfl)
abbrev zGq:=Int × ze
def zFI(r:zGq):Ans:=⟨(zg r.1),[.cells 112 [.own 1],.arr 46 (.i .u32) r.2.qx]⟩
def zqZ(w:(Option zae))(p:Int)(ws:List Int):Option zGq:=Tree.run0 <|
 .b (zko w p 3 ws) fun r1=>
 .r (r1.1,r1.2)
theorem zIb(w:(Option zae))(p:Int)(ws:List Int):Oks 107 [.op .sHealthWards w,.ref 0 0,(zg p)] [.cells 112 [.own 1],.arr 46 (.i .u32) ws] (zqZ w p ws) zFI:=zM GC3 (H:=H0) zJ Tryz.func107 rfl (by kernel_rfl) (fun J=>by kernel_rfl)
abbrev zxq:=Int × ze
def zF8(r:zxq):Ans:=⟨(zg r.1),[.cells 112 [.own 1],.arr 46 (.i .u32) r.2.qx]⟩
inductive zxd where | l0 (x0:Int) (x1:List Int) | l4 (v0:zGL) (x0:Int) (x1:List Int)
def H224:zab:=htt [] [(0,⟨fgt [0,38,39,40] 81 0,[]⟩),(4,⟨fgt [0,1,2,14,65,66,67] 81 0,[]⟩)] []
def zPA(qn:Int)(qx:Int)(qt:(List Int))(ws:List Int):zxd->Nat × St | .l0 x0 x1=>(0,⟨mkE [(0,.ref 0 0),(38,.sl (.i .i64) qt),(39,(zg qt.length)),(40,(zg x0))] 81 0,[.cells 112 [.own 1],.arr 46 (.i .u32) x1],GL,2,[],zN⟩) | .l4 v0 x0 x1=>(4,⟨mkE [(0,.ref 0 0),(1,(zg qn)),(2,(zg qx)),(14,.own 2),(65,.sl (.i .i64) qt),(66,(zg qt.length)),(67,(zg x0))] 81 0,[.cells 112 [.own 1],.arr 46 (.i .u32) x1,.arr 46 (.i .u32) ((zcH (List.set (List.set (List.set (List.replicate (i64.wrap (3+qx)).toNat (0:Int)) 0 1) 1 1) 2 (u32.wrap v0.1.length)) 3 (List.take (((List.set (List.set (List.set (List.replicate (i64.wrap (3+qx)).toNat (0:Int)) 0 1) 1 1) 2 (u32.wrap v0.1.length)).length:Int).toNat-3) (v0.1:List Int))):List Int)],GL,2,[],zN⟩)
def zjN(qn:Int)(qx:Int)(qt:(List Int))(ws:List Int):zxd->Tree zxd zxq | .l0 x0 x1=>.c (decide (x0<qt.length)) (.g (zO x0 qt.length) <| .b (zdP (i64.wrap (zt qt x0.toNat+1)) 0 x1) fun r3=>.j (.l0 (i64.wrap (x0+1)) r3.2.qx)) (.r (0,(⟨x1⟩:ze))) | .l4 v0 x0 x1 =>let y1:=(List.set (List.set (List.set (List.replicate (i64.wrap (3+qx)).toNat (0:Int)) 0 1) 1 1) 2 (u32.wrap v0.1.length));.c (decide (x0<qt.length)) (.g (zO x0 qt.length) <| .b (ze3 (zt qt x0.toNat) (zcH y1 3 (List.take ((y1.length:Int).toNat-3) (v0.1:List Int))) x1) fun r4=>.j (.l4 v0 (i64.wrap (x0+1)) r4.2.qx)) (.b (zkB qn (i64.wrap (2+qx)) 0 x1) fun r5=>.r (r5.1,r5.2))
def zAn(qn:Int)(qx:Int)(qt:(List Int))(ws:List Int):Tree zxd zxq:=.b (znw (some (⟨ws⟩:ze)) qn qx qt) fun r1=>.c (!((r1:Int)==0)) (.r (r1,(⟨ws⟩:ze))) (.b (zc3 (some (⟨ws⟩:ze)) qn qx 2) fun r2=>.c (!((r2.2:Int)==0)) (.r (r2.2,(⟨ws⟩:ze))) (.c ((r2.1.length:Int)==0) (.j (.l0 0 ws)) (.g (decide (((i64.wrap (3+qx)):Int)=(i64.wrap (3+qx)))&&decide (0<=(i64.wrap (3+qx)))&&leB ((i64.wrap (3+qx)).toNat*4) 140737488355328) <| .g (zO 0 (List.replicate (i64.wrap (3+qx)).toNat (0:Int)).length) <| .g (zO 1 (List.set (List.replicate (i64.wrap (3+qx)).toNat (0:Int)) 0 1).length) <| .g (zO 2 (List.set (List.set (List.replicate (i64.wrap (3+qx)).toNat (0:Int)) 0 1) 1 1).length) <| .g (inS 3 ((List.set (List.set (List.set (List.replicate (i64.wrap (3+qx)).toNat (0:Int)) 0 1) 1 1) 2 (u32.wrap r2.1.length)).length) (List.set (List.set (List.set (List.replicate (i64.wrap (3+qx)).toNat (0:Int)) 0 1) 1 1) 2 (u32.wrap r2.1.length)).length) <| .j (.l4 r2 0 ws))))
def zig(qn:Int)(qx:Int)(qt:(List Int))(ws:List Int):zxd->Option zxq:=zal (zjN qn qx qt ws)
theorem zho(qn:Int)(qx:Int)(qt:(List Int))(ws:List Int)(l:zxd):zig qn qx qt ws l=(zjN qn qx qt ws l).run (zig qn qx qt ws):=zE _ l
def zkA(qn:Int)(qx:Int)(qt:(List Int))(ws:List Int):Option zxq:=(zAn qn qx qt ws).run (zig qn qx qt ws)
theorem zJv(qn:Int)(qx:Int)(qt:(List Int))(ws:List Int):Oks 224 [.ref 0 0,(zg qn),(zg qx),.sl (.i .i64) qt] [.cells 112 [.own 1],.arr 46 (.i .u32) ws] (zkA qn qx qt ws) zF8:=zL GC3 (H:=H224) zJ Tryz.func224 rfl (by kernel_rfl) (zPA qn qx qt ws) (fun J l=>by cases l <;> kernel_rfl) (fun J=>by kernel_rfl)
abbrev R144:=Int × Int
def zQd(r:R144):Ans:=⟨.tup [(zg r.1),(zg r.2)],[]⟩
def zii(m:(Option ze))(root:Int)(at_2:Int)(qv:Int):Option R144:=Tree.run0 <|
 .c m.isNone
 (.r (0,3))
 (.c (decide ((qv:Int)<0))
 (.r (0,90))
 (.c (decide ((qv:Int)>7))
 (.r (0,90))
 (.b (zkp m root) fun r1=>
 .c (!r1)
 (.r (0,91))
 (.c (decide ((at_2:Int)<0))
 (.r (0,92))
 (.c (decide ((at_2:Int)>=4096))
 (.r (0,92))
 (.b (zik m root (bop .quo .i64 at_2 16)) fun r2=>
 .c (!((r2.2:Int)==0))
 (.r (0,r2.2))
 (.c (!(((bop .andNot .i64 qv r2.1.qv):Int)==0))
 (.r (0,93))
 (.r ((i64.wrap ((i64.wrap (r2.1.frame*16))+(bop .rem .i64 at_2 16))),0)))))))))
theorem zIz(m:(Option ze))(root:Int)(at_2:Int)(qv:Int):Oks 144 [.op .sMemMemory m,(zg root),(zg at_2),(zg qv)] [] (zii m root at_2 qv) zQd:=zM GC3 (H:=H0) zJ Tryz.func144 rfl (by kernel_rfl) (fun J=>by kernel_rfl)
abbrev zGE:=(List Int) × Bool × Int × ze
def zFZ(r:zGE):Ans:=⟨.tup [.sl (.i .u32) r.1,(avB r.2.1),(zg r.2.2.1)],[.cells 112 [.own 1],.arr 46 (.i .u32) r.2.2.2.qx]⟩
def H209:zab:=⟨fun _=>false,fun _=>⟨[],[]⟩,[(.slot 0,.sl (.i .u32))],G0,zN⟩
def zkv(pl:Int)(qx:Int)(qy:Int)(ws:List Int):Option zGE:=Tree.run0 <|
 .b (ze1 pl qx qy ws) fun r1=>
 .c (!((r1.2.2.1:Int)==0))
 (.r ([],false,r1.2.2.1,r1.2.2.2))
 (.c ((r1.2.1.qd.length:Int)==0)
 (.r ([],false,r1.2.2.1,r1.2.2.2))
 (.g (zO 0 r1.2.1.qd.length) <|
 .r (zW r1.2.1.qd 0,true,0,r1.2.2.2)))
theorem zJg(pl:Int)(qx:Int)(qy:Int)(ws:List Int):Oks 209 [.ref 0 0,(zg pl),(zg qx),(zg qy)] [.cells 112 [.own 1],.arr 46 (.i .u32) ws] (zkv pl qx qy ws) zFZ:=zM GC3 (H:=H209) zJ Tryz.func209 rfl (by kernel_rfl) (fun J=>by kernel_rfl)
abbrev zGD:=Int × Int × Int × ze
def zFY(r:zGD):Ans:=⟨.tup [(zg r.1),(zu r.2.1),(zg r.2.2.1)],[.cells 112 [.own 1],.arr 46 (.i .u32) r.2.2.2.qx]⟩
def zim(pl:Int)(qx:Int)(qy:Int)(ws:List Int):Option zGD:=Tree.run0 <|
 .b (ze1 pl qx qy ws) fun r1=>
 .r (r1.2.1.qd.length,r1.2.1.lost,r1.2.2.1,r1.2.2.2)
theorem zJf(pl:Int)(qx:Int)(qy:Int)(ws:List Int):Oks 208 [.ref 0 0,(zg pl),(zg qx),(zg qy)] [.cells 112 [.own 1],.arr 46 (.i .u32) ws] (zim pl qx qy ws) zFY:=zM GC3 (H:=H0) zJ Tryz.func208 rfl (by kernel_rfl) (fun J=>by kernel_rfl)
abbrev zGI:=Bool × Int × ze
def zF5(r:zGI):Ans:=⟨.tup [(avB r.1),(zg r.2.1)],[.cells 112 [.own 1],.arr 46 (.i .u32) r.2.2.qx]⟩
def zkz(k:zbd)(message:(List Int))(ws:List Int):Option zGI:=Tree.run0 <|
 .b (znv k.ends.qn k.ends.qx message ws) fun r1=>
 .r (((r1.1:Int)==0),r1.1,r1.2)
theorem zJo(k:zbd)(message:(List Int))(ws:List Int):Oks 217 [.agg (Ty.enc .sDuctLast k),.ref 0 0,.sl (.i .u32) message] [.cells 112 [.own 1],.arr 46 (.i .u32) ws] (zkz k message ws) zF5:=zM GC3 (H:=H0) zJ Tryz.func217 rfl (by kernel_rfl) (fun J=>by kernel_rfl)
abbrev R97:=Int × ze
def to97(r:R97):Ans:=⟨(zg r.1),[.cells 112 [.own 1],.arr 46 (.i .u32) r.2.qx]⟩
def zwr(w:(Option zae))(p:Int)(ws:List Int):Option R97:=Tree.run0 <|
 .b (zko w p 1 ws) fun r1=>
 .r (r1.1,r1.2)
theorem zOQ(w:(Option zae))(p:Int)(ws:List Int):Oks 97 [.op .sHealthWards w,.ref 0 0,(zg p)] [.cells 112 [.own 1],.arr 46 (.i .u32) ws] (zwr w p ws) to97:=zM GC3 (H:=H0) zJ Tryz.func97 rfl (by kernel_rfl) (fun J=>by kernel_rfl)
abbrev zyU:=Bool
def zP2(r:zyU):Ans:=⟨(avB r),[]⟩
inductive zwO where | l0 (x0:Int) | l4 (x0:Int) (x1:List Region) (x2:Int) (x3:Int)
def H127:zab:=htt [] [(0,⟨fgt [1,28,29,30] 65 0,[]⟩),(4,⟨fgt [1,28,29,30,35,36,37] 65 0,[]⟩)] []
def zPb(c:za):zwO->Nat × St | .l0 x0=>(0,⟨mkE [(1,.ref 0 0),(28,.sl .sPartition c.qq),(29,(zg c.qq.length)),(30,(zg x0))] 65 0,[.cells 26 (Ty.enc .sConfig c)],GL,0,[],zN⟩) | .l4 x0 x1 x2 x3=>(4,⟨mkE [(1,.ref 0 0),(28,.sl .sPartition c.qq),(29,(zg c.qq.length)),(30,(zg x0)),(35,.sl .sRegion x1),(36,(zg x2)),(37,(zg x3))] 65 0,[.cells 26 (Ty.enc .sConfig c)],GL,0,[],zN⟩)
def zjJ(c:za):zwO->Tree zwO zyU | .l0 x0 =>let y1:=(zb c.qq x0.toNat).qe;.c (decide (x0<c.qq.length)) (.g (zO x0 c.qq.length) <| .j (.l4 x0 y1 (y1.length) 0)) (.b (znp c) fun r1=>.c ((r1.2:Int)==0) (.r (decide ((r1.1:Int)<=c.room))) (.r false)) | .l4 x0 x1 x2 x3 =>let y1:=zi x1 x3.toNat;.c (decide (x3<x2)) (.g (zO x3 x1.length) <| .c (zv2 (y1.frame) (y1.qc) c.kernel c.room) (.r false) (.j (.l4 x0 x1 x2 (i64.wrap (x3+1))))) (.j (.l0 (i64.wrap (x0+1))))
def zz4(c:za):Tree zwO zyU:=.c (!(za1 c.kernel 0 (i64.wrap (c.qr-1)))) (.r false) (.c (!(za1 c.room 1 (i64.wrap (c.qr-c.kernel)))) (.r false) (.j (.l0 0)))
def zki(c:za):zwO->Option zyU:=zal (zjJ c)
theorem zhk(c:za)(l:zwO):zki c l=(zjJ c l).run (zki c):=zE _ l
def zkn(c:za):Option zyU:=(zz4 c).run (zki c)
theorem zIm(c:za):Oks 127 [.agg (Ty.enc .sConfig c)] [] (zkn c) zP2:=zL GC3 (H:=H127) zJ Tryz.func127 rfl (by kernel_rfl) (zPb c) (fun J l=>by cases l <;> kernel_rfl) (fun J=>by kernel_rfl)
abbrev zGF:=Bool × Int × ze
def zF0(r:zGF):Ans:=⟨.tup [(avB r.1),(zg r.2.1)],[.cells 112 [.own 1],.arr 46 (.i .u32) r.2.2.qx]⟩
def zkw(qn:Int)(qx:Int)(qy:Int)(message:(List Int))(ws:List Int):Option zGF:=Tree.run0 <|
 .c (!(((zgD (some (⟨ws⟩:ze)) (⟨qx,qy⟩:zy)):Int)==0))
 (.r (false,(zgD (some (⟨ws⟩:ze)) (⟨qx,qy⟩:zy)),(⟨ws⟩:ze)))
 (.c ((message.length:Int)==0)
 (.r (false,200,(⟨ws⟩:ze)))
 (.c (decide ((message.length:Int)>qx))
 (.r (false,200,(⟨ws⟩:ze)))
 (.b (zgP (⟨qx,qy⟩:zy) qn ws) fun r1=>
 .c (!((r1.2.1:Int)==0))
 (.r (false,r1.2.1,r1.2.2))
 (.c ((r1.1.qd.length:Int)==qy)
 (.r (false,r1.2.1,r1.2.2))
 (.g (leB (((r1.1.qd:List (List Int)).length+([message]:List (List Int)).length)*24) 140737488355328) <|
 .b (ze2 (⟨qx,qy⟩:zy) qn (⟨r1.1.first,r1.1.lost,((r1.1.qd:List (List Int))++[message])⟩:zU) ([(u32.wrap (((r1.1.qd:List (List Int))++[message]).length))]) r1.2.2.qx) fun r2=>
 .r (true,0,r2))))))
theorem zJh(qn:Int)(qx:Int)(qy:Int)(message:(List Int))(ws:List Int):Oks 210 [.ref 0 0,(zg qn),(zg qx),(zg qy),.sl (.i .u32) message] [.cells 112 [.own 1],.arr 46 (.i .u32) ws] (zkw qn qx qy message ws) zF0:=zM GC3 (H:=H0) zJ Tryz.func210 rfl (by kernel_rfl) (fun J=>by kernel_rfl)
abbrev zGt:=Bool × Int × ze
def zFL(r:zGt):Ans:=⟨.tup [(avB r.1),(zg r.2.1)],[.cells 112 [.own 1],.arr 46 (.i .u32) r.2.2.qx]⟩
def zij(pl:Int)(qx:Int)(qy:Int)(ws:List Int):Option zGt:=Tree.run0 <|
 .b (ze1 pl qx qy ws) fun r1=>
 .c (!((r1.2.2.1:Int)==0))
 (.r (false,r1.2.2.1,r1.2.2.2))
 (.c ((r1.2.1.qd.length:Int)==0)
 (.r (false,r1.2.2.1,r1.2.2.2))
 (.g (inS 1 r1.2.1.qd.length r1.2.1.qd.length) <|
 .c (decide (((u32.wrap qy):Int)=0))
 (.n)
 (.b (zgN r1.1 pl (⟨(dv .rem .u32 (u32.wrap (r1.2.1.first+1)) (u32.wrap qy)),r1.2.1.lost,((r1.2.1.qd.take (r1.2.1.qd.length:Int).toNat).drop 1)⟩:zU) r1.2.2.2.qx) fun r2=>
 .r (true,0,r2))))
theorem zIB(pl:Int)(qx:Int)(qy:Int)(ws:List Int):Oks 146 [.ref 0 0,(zg pl),(zg qx),(zg qy)] [.cells 112 [.own 1],.arr 46 (.i .u32) ws] (zij pl qx qy ws) zFL:=zM GC3 (H:=H0) zJ Tryz.func146 rfl (by kernel_rfl) (fun J=>by kernel_rfl)
abbrev R216:=(List Int) × Int × Bool × Int
def zQH(r:R216):Ans:=⟨.tup [.own 0,(zu r.2.1),(avB r.2.2.1),(zg r.2.2.2)],[.arr 46 (.i .u32) r.1]⟩
def zgR(k:zbd)(m:(Option ze))(port:Int):Option R216:=Tree.run0 <|
 .b (zuL m port k.ends.qx) fun r1=>
 .r (r1.1,(zsI r1.2.1),r1.2.2.1,r1.2.2.2)
theorem zJn(k:zbd)(m:(Option ze))(port:Int):Oks 216 [.agg (Ty.enc .sDuctLast k),.op .sMemMemory m,(zg port)] [] (zgR k m port) zQH:=zM GC3 (H:=H0) zJ Tryz.func216 rfl (by kernel_rfl) (fun J=>by kernel_rfl)
abbrev R141:=Int × Int
def zQb(r:R141):Ans:=⟨.tup [(zg r.1),(zg r.2)],[]⟩
def znl(c:za):Option R141:=Tree.run0 <|
 .b (zgU c) fun r2=>
 .c (!((r2.2:Int)==0))
 (.r (0,r2.2))
 (.r ((i64.wrap (r2.1.end_-c.kernel)),0))
theorem zIw(c:za):Oks 141 [.agg (Ty.enc .sConfig c)] [] (znl c) zQb:=zM GC3 (H:=H0) zJ Tryz.func141 rfl (by kernel_rfl) (fun J=>by kernel_rfl)
def k14:Fk 14:=aF (aS .sConfig fun a0=>aS .sBulkheadlaw25Op fun a1=>aL (.i .u32) fun a2=>aL (.sl (.i .u32)) fun a3=>aL (.sl (.i .u32)) fun a4=>aE (zNA a0 a1 a2 a3 a4))
def g97(args:List AV)(hp:List Blk):Option Rsp:=
 match args,hp with
 | [a0,.ref 0 0,a2],[.cells 112 [.own 1],.arr 46 (.i .u32) y0]=>(rdL (.p .sHealthWards) a0).bind fun b0=>(rdL (.i .i64) a2).bind fun b2=>some ⟨R97,(zwr b0 b2 y0),to97,default⟩
 | _,_=>none
def k97:Fk 97:=⟨g97,fun args hp y h x hx=>by
 unfold g97 at h
 split at h
 . simp only[Option.bind_eq_some_iff]at h
   obtain ⟨b0,h0,b2,h2,h⟩:=h
   cases h;exact(zOQ b0 b2 _).ats (.cons (z9 h0) (.cons (fun _ _ _ _ h=>h) (.cons (z9 h2) .nil))) hx
 . cases h⟩
def g107(args:List AV)(hp:List Blk):Option Rsp:=
 match args,hp with
 | [a0,.ref 0 0,a2],[.cells 112 [.own 1],.arr 46 (.i .u32) y0]=>(rdL (.p .sHealthWards) a0).bind fun b0=>(rdL (.i .i64) a2).bind fun b2=>some ⟨zGq,(zqZ b0 b2 y0),zFI,default⟩
 | _,_=>none
def k107:Fk 107:=⟨g107,fun args hp y h x hx=>by
 unfold g107 at h
 split at h
 . simp only[Option.bind_eq_some_iff]at h
   obtain ⟨b0,h0,b2,h2,h⟩:=h
   cases h;exact(zIb b0 b2 _).ats (.cons (z9 h0) (.cons (fun _ _ _ _ h=>h) (.cons (z9 h2) .nil))) hx
 . cases h⟩
def k127:Fk 127:=aF (aS .sConfig fun a0=>aE (zIm a0))
def k141:Fk 141:=aF (aS .sConfig fun a0=>aE (zIw a0))
def k144:Fk 144:=aF (aL (.p .sMemMemory) fun a0=>aL (.i .i64) fun a1=>aL (.i .i64) fun a2=>aL (.i .i64) fun a3=>aE (zIz a0 a1 a2 a3))
def g146(args:List AV)(hp:List Blk):Option Rsp:=
 match args,hp with
 | [.ref 0 0,a1,a2,a3],[.cells 112 [.own 1],.arr 46 (.i .u32) y0]=>(rdL (.i .i64) a1).bind fun b1=>(rdL (.i .i64) a2).bind fun b2=>(rdL (.i .i64) a3).bind fun b3=>some ⟨zGt,(zij b1 b2 b3 y0),zFL,default⟩
 | _,_=>none
def k146:Fk 146:=⟨g146,fun args hp y h x hx=>by
 unfold g146 at h
 split at h
 . simp only[Option.bind_eq_some_iff]at h
   obtain ⟨b1,h1,b2,h2,b3,h3,h⟩:=h
   cases h;exact(zIB b1 b2 b3 _).ats (.cons (fun _ _ _ _ h=>h) (.cons (z9 h1) (.cons (z9 h2) (.cons (z9 h3) .nil)))) hx
 . cases h⟩
def g208(args:List AV)(hp:List Blk):Option Rsp:=
 match args,hp with
 | [.ref 0 0,a1,a2,a3],[.cells 112 [.own 1],.arr 46 (.i .u32) y0]=>(rdL (.i .i64) a1).bind fun b1=>(rdL (.i .i64) a2).bind fun b2=>(rdL (.i .i64) a3).bind fun b3=>some ⟨zGD,(zim b1 b2 b3 y0),zFY,default⟩
 | _,_=>none
def k208:Fk 208:=⟨g208,fun args hp y h x hx=>by
 unfold g208 at h
 split at h
 . simp only[Option.bind_eq_some_iff]at h
   obtain ⟨b1,h1,b2,h2,b3,h3,h⟩:=h
   cases h;exact(zJf b1 b2 b3 _).ats (.cons (fun _ _ _ _ h=>h) (.cons (z9 h1) (.cons (z9 h2) (.cons (z9 h3) .nil)))) hx
 . cases h⟩
def g209(args:List AV)(hp:List Blk):Option Rsp:=
 match args,hp with
 | [.ref 0 0,a1,a2,a3],[.cells 112 [.own 1],.arr 46 (.i .u32) y0]=>(rdL (.i .i64) a1).bind fun b1=>(rdL (.i .i64) a2).bind fun b2=>(rdL (.i .i64) a3).bind fun b3=>some ⟨zGE,(zkv b1 b2 b3 y0),zFZ,default⟩
 | _,_=>none
def k209:Fk 209:=⟨g209,fun args hp y h x hx=>by
 unfold g209 at h
 split at h
 . simp only[Option.bind_eq_some_iff]at h
   obtain ⟨b1,h1,b2,h2,b3,h3,h⟩:=h
   cases h;exact(zJg b1 b2 b3 _).ats (.cons (fun _ _ _ _ h=>h) (.cons (z9 h1) (.cons (z9 h2) (.cons (z9 h3) .nil)))) hx
 . cases h⟩
def g210(args:List AV)(hp:List Blk):Option Rsp:=
 match args,hp with
 | [.ref 0 0,a1,a2,a3,a4],[.cells 112 [.own 1],.arr 46 (.i .u32) y0]=>(rdL (.i .i64) a1).bind fun b1=>(rdL (.i .i64) a2).bind fun b2=>(rdL (.i .i64) a3).bind fun b3=>(rdL (.sl (.i .u32)) a4).bind fun b4=>some ⟨zGF,(zkw b1 b2 b3 b4 y0),zF0,default⟩
 | _,_=>none
def k210:Fk 210:=⟨g210,fun args hp y h x hx=>by
 unfold g210 at h
 split at h
 . simp only[Option.bind_eq_some_iff]at h
   obtain ⟨b1,h1,b2,h2,b3,h3,b4,h4,h⟩:=h
   cases h;exact(zJh b1 b2 b3 b4 _).ats (.cons (fun _ _ _ _ h=>h) (.cons (z9 h1) (.cons (z9 h2) (.cons (z9 h3) (.cons (z9 h4) .nil))))) hx
 . cases h⟩
def g211(args:List AV)(hp:List Blk):Option Rsp:=
 match args,hp with
 | [.ref 0 0,a1,a2,a3],[.cells 112 [.own 1],.arr 46 (.i .u32) y0]=>(rdL (.i .i64) a1).bind fun b1=>(rdL (.i .i64) a2).bind fun b2=>(rdL (.i .i64) a3).bind fun b3=>some ⟨zGG,(zkx b1 b2 b3 y0),zF1,default⟩
 | _,_=>none
def k211:Fk 211:=⟨g211,fun args hp y h x hx=>by
 unfold g211 at h
 split at h
 . simp only[Option.bind_eq_some_iff]at h
   obtain ⟨b1,h1,b2,h2,b3,h3,h⟩:=h
   cases h;exact(zJi b1 b2 b3 _).ats (.cons (fun _ _ _ _ h=>h) (.cons (z9 h1) (.cons (z9 h2) (.cons (z9 h3) .nil)))) hx
 . cases h⟩
def g212(args:List AV)(hp:List Blk):Option Rsp:=
 match args,hp with
 | [.ref 0 0,a1,a2,a3,a4],[.cells 112 [.own 1],.arr 46 (.i .u32) y0]=>(rdL (.i .i64) a1).bind fun b1=>(rdL (.i .i64) a2).bind fun b2=>(rdL (.i .i64) a3).bind fun b3=>(rdL (.sl (.i .i64)) a4).bind fun b4=>some ⟨zxp,(zky b1 b2 b3 b4 y0),zF2,default⟩
 | _,_=>none
def k212:Fk 212:=⟨g212,fun args hp y h x hx=>by
 unfold g212 at h
 split at h
 . simp only[Option.bind_eq_some_iff]at h
   obtain ⟨b1,h1,b2,h2,b3,h3,b4,h4,h⟩:=h
   cases h;exact(zJj b1 b2 b3 b4 _).ats (.cons (fun _ _ _ _ h=>h) (.cons (z9 h1) (.cons (z9 h2) (.cons (z9 h3) (.cons (z9 h4) .nil))))) hx
 . cases h⟩
def k216:Fk 216:=aF (aS .sDuctLast fun a0=>aL (.p .sMemMemory) fun a1=>aL (.i .i64) fun a2=>aE (zJn a0 a1 a2))
def g217(args:List AV)(hp:List Blk):Option Rsp:=
 match args,hp with
 | [a0,.ref 0 0,a2],[.cells 112 [.own 1],.arr 46 (.i .u32) y0]=>(rdS .sDuctLast a0).bind fun b0=>(rdL (.sl (.i .u32)) a2).bind fun b2=>some ⟨zGI,(zkz b0 b2 y0),zF5,default⟩
 | _,_=>none
def k217:Fk 217:=⟨g217,fun args hp y h x hx=>by
 unfold g217 at h
 split at h
 . simp only[Option.bind_eq_some_iff]at h
   obtain ⟨b0,h0,b2,h2,h⟩:=h
   cases h;exact(zJo b0 b2 _).ats (.cons (zcy h0) (.cons (fun _ _ _ _ h=>h) (.cons (z9 h2) .nil))) hx
 . cases h⟩
def k218:Fk 218:=aF (aS .sDuctLast fun a0=>aL (.p .sMemMemory) fun a1=>aE (zJp a0 a1))
def g224(args:List AV)(hp:List Blk):Option Rsp:=
 match args,hp with
 | [.ref 0 0,a1,a2,a3],[.cells 112 [.own 1],.arr 46 (.i .u32) y0]=>(rdL (.i .i64) a1).bind fun b1=>(rdL (.i .i64) a2).bind fun b2=>(rdL (.sl (.i .i64)) a3).bind fun b3=>some ⟨zxq,(zkA b1 b2 b3 y0),zF8,default⟩
 | _,_=>none
def k224:Fk 224:=⟨g224,fun args hp y h x hx=>by
 unfold g224 at h
 split at h
 . simp only[Option.bind_eq_some_iff]at h
   obtain ⟨b1,h1,b2,h2,b3,h3,h⟩:=h
   cases h;exact(zJv b1 b2 b3 _).ats (.cons (fun _ _ _ _ h=>h) (.cons (z9 h1) (.cons (z9 h2) (.cons (z9 h3) .nil)))) hx
 . cases h⟩
def GC4:GK:=zhZ [⟨14,k14⟩,⟨97,k97⟩,⟨107,k107⟩,⟨127,k127⟩,⟨141,k141⟩,⟨144,k144⟩,⟨146,k146⟩,⟨208,k208⟩,⟨209,k209⟩,⟨210,k210⟩,⟨211,k211⟩,⟨212,k212⟩,⟨216,k216⟩,⟨217,k217⟩,⟨218,k218⟩,⟨224,k224⟩] GC3
abbrev R89:=Bool
def to89(r:R89):Ans:=⟨(avB r),[]⟩
inductive L89 where | l0 (x0:Int) | l4 (x0:Int) (x1:Int)
def H89:zab:=htt [] [(0,⟨fgt [1,3] 75 0,[]⟩),(4,⟨fgt [1,3,4] 75 0,[]⟩)] []
def st89(c:za):L89->Nat × St | .l0 x0=>(0,⟨mkE [(1,.ref 0 0),(3,(zg x0))] 75 0,[.cells 26 (Ty.enc .sConfig c)],GL,0,[],zN⟩) | .l4 x0 x1=>(4,⟨mkE [(1,.ref 0 0),(3,(zg x0)),(4,(zg x1))] 75 0,[.cells 26 (Ty.enc .sConfig c)],GL,0,[],zN⟩)
def zon(c:za):L89->Tree L89 R89 | .l0 x0=>.c (decide (x0<c.qq.length)) (.j (.l4 x0 0)) (.b (znl c) fun r1=>.c ((r1.2:Int)==0) (.r (decide ((r1.1:Int)<=c.room))) (.r false)) | .l4 x0 x1 =>let y1:=(zb c.qq x0.toNat).qe;let y2:=zO x0 c.qq.length;let y3:=zi y1 x1.toNat;.g y2 <| .c (decide (x1<y1.length)) (.g y2 <| .g (zO x1 y1.length) <| .c (zpa (y3.frame) (y3.qc) c.kernel c.room) (.r false) (.j (.l4 x0 (i64.wrap (x1+1))))) (.j (.l0 (i64.wrap (x0+1))))
def zFc(c:za):Tree L89 R89:=.c (!(zaQ c.kernel 0 (i64.wrap (c.qr-1)))) (.r false) (.c (!(zaQ c.room 1 (i64.wrap (c.qr-c.kernel)))) (.r false) (.j (.l0 0)))
def zps(c:za):L89->Option R89:=zal (zon c)
theorem zjn(c:za)(l:L89):zps c l=(zon c l).run (zps c):=zE _ l
def zpz(c:za):Option R89:=(zFc c).run (zps c)
theorem zOI(c:za):Oks 89 [.agg (Ty.enc .sConfig c)] [] (zpz c) to89:=zL GC4 (H:=H89) zJ Tryz.func89 rfl (by kernel_rfl) (st89 c) (fun J l=>by cases l <;> kernel_rfl) (fun J=>by kernel_rfl)
abbrev zGz:=(List Int) × Int × Bool × Int × ze
def zFU(r:zGz):Ans:=⟨.tup [.sl (.i .u32) r.1,(zu r.2.1),(avB r.2.2.1),(zg r.2.2.2.1)],[.cells 112 [.own 1],.arr 46 (.i .u32) r.2.2.2.2.qx]⟩
def H204:zab:=⟨fun _=>false,fun _=>⟨[],[]⟩,[(.slot 0,.sl (.i .u32))],G0,zN⟩
def zks(k:zbA)(pl:Int)(ws:List Int):Option zGz:=Tree.run0 <|
 .b (zkv pl k.ends.qx k.qy ws) fun r1=>
 .c (!((r1.2.2.1:Int)==0))
 (.r ([],0,false,r1.2.2.1,r1.2.2.2))
 (.c (!r1.2.1)
 (.r ([],0,false,r1.2.2.1,r1.2.2.2))
 (.b (zim pl k.ends.qx k.qy r1.2.2.2.qx) fun r2=>
 .r (r1.1,(u32.wrap (i64.wrap (r2.1-1))),true,r2.2.2.1,r2.2.2.2)))
theorem zJb(k:zbA)(pl:Int)(ws:List Int):Oks 204 [.agg (Ty.enc .sDuctRow k),.ref 0 0,(zg pl)] [.cells 112 [.own 1],.arr 46 (.i .u32) ws] (zks k pl ws) zFU:=zM GC4 (H:=H204) zJ Tryz.func204 rfl (by kernel_rfl) (fun J=>by kernel_rfl)
abbrev R215:=Int × Int × Int
def zQG(r:R215):Ans:=⟨.tup [(zu r.1),(zu r.2.1),(zg r.2.2)],[]⟩
def znt(k:zbd)(m:(Option ze))(port:Int):Option R215:=Tree.run0 <|
 .b (zgR k m port) fun r1=>
 .r ((zsI r1.2.2.1),r1.2.1,r1.2.2.2)
theorem zJm(k:zbd)(m:(Option ze))(port:Int):Oks 215 [.agg (Ty.enc .sDuctLast k),.op .sMemMemory m,(zg port)] [] (znt k m port) zQG:=zM GC4 (H:=H0) zJ Tryz.func215 rfl (by kernel_rfl) (fun J=>by kernel_rfl)
abbrev R62:=zaN × Int × zah
def to62(r:R62):Ans:=⟨.tup [.agg [(zu r.1.one),(zu r.1.two),(zu r.1.three)],(zg r.2.1)],[.cells 116 [.op .sCallsCalls r.2.2.calls,.ref 1 0,(zg r.2.2.p),(zg r.2.2.qu),(zu r.2.2.x.qz.e0),(zu r.2.2.x.qz.e1),(zu r.2.2.x.qz.e2),(zu r.2.2.x.qz.e3),(zu r.2.2.x.qz.e4),(zu r.2.2.x.qz.e5),(zu r.2.2.x.qz.e6),(zu r.2.2.x.qz.e7),(zu r.2.2.x.qz.e8),(zu r.2.2.x.qz.e9),(zu r.2.2.x.qz.e10),(zu r.2.2.x.qz.e11),(zu r.2.2.x.qz.e12),(zu r.2.2.x.qz.e13),(zu r.2.2.x.qz.e14),(zu r.2.2.x.qz.e15),(zu r.2.2.x.pC)],.cells 112 [.own 2],.arr 46 (.i .u32) ((r.2.2.m.getD default).qx)]⟩
def zti(s:(Option zr))(p:Int)(qu:Int)(x:zB)(ws:List Int):Option R62:=Tree.run0 <|
 .g s.isSome <|
 .b (zwr ((s.getD default).qh) p ws) fun r1=>
 .r ((zi8 0),r1.1,(⟨s,(some r1.2),p,qu,x⟩:zah))
theorem zOh(s:(Option zr))(p:Int)(qu:Int)(x:zB)(ws:List Int):Oks 62 [.ref 0 0] [.cells 116 [.op .sCallsCalls s,.ref 1 0,(zg p),(zg qu),(zu x.qz.e0),(zu x.qz.e1),(zu x.qz.e2),(zu x.qz.e3),(zu x.qz.e4),(zu x.qz.e5),(zu x.qz.e6),(zu x.qz.e7),(zu x.qz.e8),(zu x.qz.e9),(zu x.qz.e10),(zu x.qz.e11),(zu x.qz.e12),(zu x.qz.e13),(zu x.qz.e14),(zu x.qz.e15),(zu x.pC)],.cells 112 [.own 2],.arr 46 (.i .u32) ws] (zti s p qu x ws) to62:=zM GC4 (H:=H0) zJ Tryz.func62 rfl (by kernel_rfl) (fun J=>by kernel_rfl)
abbrev zGB:=Int × Int × ze
def zFW(r:zGB):Ans:=⟨.tup [(zg r.1),(zg r.2.1)],[.cells 112 [.own 1],.arr 46 (.i .u32) r.2.2.qx]⟩
def zku(k:zbA)(ws:List Int):Option zGB:=Tree.run0 <|
 .b (zkx k.ends.qn k.ends.qx k.qy ws) fun r1=>
 .r (r1.1,r1.2.1,r1.2.2)
theorem zJd(k:zbA)(ws:List Int):Oks 206 [.agg (Ty.enc .sDuctRow k),.ref 0 0] [.cells 112 [.own 1],.arr 46 (.i .u32) ws] (zku k ws) zFW:=zM GC4 (H:=H0) zJ Tryz.func206 rfl (by kernel_rfl) (fun J=>by kernel_rfl)
abbrev zGJ:=Int × ze
def zF6(r:zGJ):Ans:=⟨(zg r.1),[.cells 112 [.own 1],.arr 46 (.i .u32) r.2.qx]⟩
def ze5(k:zbd)(ws:List Int):Option zGJ:=Tree.run0 <|
 .b (zkA k.ends.qn k.ends.qx k.ends.qt ws) fun r1=>
 .r (r1.1,r1.2)
theorem zJq(k:zbd)(ws:List Int):Oks 219 [.agg (Ty.enc .sDuctLast k),.ref 0 0] [.cells 112 [.own 1],.arr 46 (.i .u32) ws] (ze5 k ws) zF6:=zM GC4 (H:=H0) zJ Tryz.func219 rfl (by kernel_rfl) (fun J=>by kernel_rfl)
abbrev zGn:=Int × ze
def zFE(r:zGn):Ans:=⟨(zg r.1),[.cells 112 [.own 1],.arr 46 (.i .u32) r.2.qx]⟩
def znf(d:(Option zG))(p:Int)(port:Int)(ws:List Int):Option zGn:=Tree.run0 <|
 .b (zlj d (some (⟨ws⟩:ze))) fun r1=>
 .c (!((r1:Int)==0))
 (.r (r1,(⟨ws⟩:ze)))
 (.b (zhL d p port) fun r2=>
 .c (!r2.2)
 (.r (0,(⟨ws⟩:ze)))
 (.c r2.1.qb
 (.r (0,(⟨ws⟩:ze)))
 (.o (zju d r2.1.ql) (fun r3=>
 .b (zgM d p port r2.1.ql) fun r4=>
 .b (zij r4 r3.ends.qx r3.qy ws) fun r5=>
 .r (r5.2.1,r5.2.2))
 (.b (zck d r2.1.ql) fun _=>
 .r (0,(⟨ws⟩:ze))))))
theorem zH6(d:(Option zG))(p:Int)(port:Int)(ws:List Int):Oks 102 [.op .sDuctDucts d,.ref 0 0,(zg p),(zg port)] [.cells 112 [.own 1],.arr 46 (.i .u32) ws] (znf d p port ws) zFE:=zM GC4 (H:=H0) zJ Tryz.func102 rfl (by kernel_rfl) (fun J=>by kernel_rfl)
abbrev R99:=(List Int) × Bool × zah
def to99(r:R99):Ans:=⟨.tup [.sl (.i .i64) r.1,(avB r.2.1)],[.cells 116 [.op .sCallsCalls r.2.2.calls,.ref 1 0,(zg r.2.2.p),(zg r.2.2.qu),(zu r.2.2.x.qz.e0),(zu r.2.2.x.qz.e1),(zu r.2.2.x.qz.e2),(zu r.2.2.x.qz.e3),(zu r.2.2.x.qz.e4),(zu r.2.2.x.qz.e5),(zu r.2.2.x.qz.e6),(zu r.2.2.x.qz.e7),(zu r.2.2.x.qz.e8),(zu r.2.2.x.qz.e9),(zu r.2.2.x.qz.e10),(zu r.2.2.x.qz.e11),(zu r.2.2.x.qz.e12),(zu r.2.2.x.qz.e13),(zu r.2.2.x.qz.e14),(zu r.2.2.x.qz.e15),(zu r.2.2.x.pC)],.cells 112 [.own 2],.arr 46 (.i .u32) ((r.2.2.m.getD default).qx)]⟩
inductive L99 where | l0 (x0:Int) (x1:List Int)
def H99:zab:=htt [] [(0,⟨fgt [0,1,3,10,14,15] 54 0,[(.slot 10,.own 3 (.i .i64))]⟩)] [(.slot 0,.sl (.i .i64))]
def st99(at_:Int)(n_:Int)(right:Int)(s:(Option zr))(p:Int)(qu:Int)(x:zB)(ws:List Int):L99->Nat × St | .l0 x0 x1=>(0,⟨mkE [(0,.ref 0 0),(1,(zu at_)),(3,(zg right)),(10,.own 3),(14,(zg n_)),(15,(zg x0))] 54 0,[.cells 116 [.op .sCallsCalls s,.ref 1 0,(zg p),(zg qu),(zu x.qz.e0),(zu x.qz.e1),(zu x.qz.e2),(zu x.qz.e3),(zu x.qz.e4),(zu x.qz.e5),(zu x.qz.e6),(zu x.qz.e7),(zu x.qz.e8),(zu x.qz.e9),(zu x.qz.e10),(zu x.qz.e11),(zu x.qz.e12),(zu x.qz.e13),(zu x.qz.e14),(zu x.qz.e15),(zu x.pC)],.cells 112 [.own 2],.arr 46 (.i .u32) ws,.arr 3 (.i .i64) x1],GL,3,[],zN⟩)
def zvk(at_:Int)(n_:Int)(right:Int)(s:(Option zr))(p:Int)(qu:Int)(x:zB)(ws:List Int):L99->Tree L99 R99 | .l0 x0 x1 =>let y1:=(⟨ws⟩:ze);let y2:=(⟨s,(some y1),p,qu,x⟩:zah);let y3:=(s.getD default).lay.qq;.c (decide (x0<n_)) (.g s.isSome <| .g (zO p y3.length) <| .b (zii (some y1) ((zn y3 p.toNat).root) (i64.wrap ((i64.wrap at_)+x0)) right) fun r1=>.c (!((r1.2:Int)==0)) (.r ([],false,y2)) (.g (leB (((x1:List Int).length+([r1.1]:List Int).length)*8) 140737488355328) <| .j (.l0 (i64.wrap (x0+1)) ((x1:List Int)++[r1.1])))) (.r (x1,true,y2))
def zFf(at_:Int)(n_:Int)(right:Int)(s:(Option zr))(p:Int)(qu:Int)(x:zB)(ws:List Int):Tree L99 R99:=.j (.l0 0 [])
def zwb(at_:Int)(n_:Int)(right:Int)(s:(Option zr))(p:Int)(qu:Int)(x:zB)(ws:List Int):L99->Option R99:=zal (zvk at_ n_ right s p qu x ws)
theorem ztb(at_:Int)(n_:Int)(right:Int)(s:(Option zr))(p:Int)(qu:Int)(x:zB)(ws:List Int)(l:L99):zwb at_ n_ right s p qu x ws l=(zvk at_ n_ right s p qu x ws l).run (zwb at_ n_ right s p qu x ws):=zE _ l
def zpC(at_:Int)(n_:Int)(right:Int)(s:(Option zr))(p:Int)(qu:Int)(x:zB)(ws:List Int):Option R99:=(zFf at_ n_ right s p qu x ws).run (zwb at_ n_ right s p qu x ws)
theorem zOS(at_:Int)(n_:Int)(right:Int)(s:(Option zr))(p:Int)(qu:Int)(x:zB)(ws:List Int):Oks 99 [.ref 0 0,(zu at_),(zg n_),(zg right)] [.cells 116 [.op .sCallsCalls s,.ref 1 0,(zg p),(zg qu),(zu x.qz.e0),(zu x.qz.e1),(zu x.qz.e2),(zu x.qz.e3),(zu x.qz.e4),(zu x.qz.e5),(zu x.qz.e6),(zu x.qz.e7),(zu x.qz.e8),(zu x.qz.e9),(zu x.qz.e10),(zu x.qz.e11),(zu x.qz.e12),(zu x.qz.e13),(zu x.qz.e14),(zu x.qz.e15),(zu x.pC)],.cells 112 [.own 2],.arr 46 (.i .u32) ws] (zpC at_ n_ right s p qu x ws) to99:=zL GC4 (H:=H99) zJ Tryz.func99 rfl (by kernel_rfl) (st99 at_ n_ right s p qu x ws) (fun J l=>by cases l <;> kernel_rfl) (fun J=>by kernel_rfl)
abbrev zGy:=Int × Int × Int × ze
def zFT(r:zGy):Ans:=⟨.tup [(zu r.1),(zu r.2.1),(zg r.2.2.1)],[.cells 112 [.own 1],.arr 46 (.i .u32) r.2.2.2.qx]⟩
def zkr(k:zbA)(pl:Int)(ws:List Int):Option zGy:=Tree.run0 <|
 .b (zim pl k.ends.qx k.qy ws) fun r1=>
 .r ((u32.wrap r1.1),r1.2.1,r1.2.2.1,r1.2.2.2)
theorem zJa(k:zbA)(pl:Int)(ws:List Int):Oks 203 [.agg (Ty.enc .sDuctRow k),.ref 0 0,(zg pl)] [.cells 112 [.own 1],.arr 46 (.i .u32) ws] (zkr k pl ws) zFT:=zM GC4 (H:=H0) zJ Tryz.func203 rfl (by kernel_rfl) (fun J=>by kernel_rfl)
abbrev R69:=zaN × Int × zah
def to69(r:R69):Ans:=⟨.tup [.agg [(zu r.1.one),(zu r.1.two),(zu r.1.three)],(zg r.2.1)],[.cells 116 [.op .sCallsCalls r.2.2.calls,.ref 1 0,(zg r.2.2.p),(zg r.2.2.qu),(zu r.2.2.x.qz.e0),(zu r.2.2.x.qz.e1),(zu r.2.2.x.qz.e2),(zu r.2.2.x.qz.e3),(zu r.2.2.x.qz.e4),(zu r.2.2.x.qz.e5),(zu r.2.2.x.qz.e6),(zu r.2.2.x.qz.e7),(zu r.2.2.x.qz.e8),(zu r.2.2.x.qz.e9),(zu r.2.2.x.qz.e10),(zu r.2.2.x.qz.e11),(zu r.2.2.x.qz.e12),(zu r.2.2.x.qz.e13),(zu r.2.2.x.qz.e14),(zu r.2.2.x.qz.e15),(zu r.2.2.x.pC)],.cells 112 [.own 2],.arr 46 (.i .u32) ((r.2.2.m.getD default).qx)]⟩
def zto(s:(Option zr))(p:Int)(qu:Int)(x:zB)(ws:List Int):Option R69:=Tree.run0 <|
 .g s.isSome <|
 .b (zqZ ((s.getD default).qh) p ws) fun r1=>
 .r ((zi8 0),r1.1,(⟨s,(some r1.2),p,qu,x⟩:zah))
theorem zOo(s:(Option zr))(p:Int)(qu:Int)(x:zB)(ws:List Int):Oks 69 [.ref 0 0] [.cells 116 [.op .sCallsCalls s,.ref 1 0,(zg p),(zg qu),(zu x.qz.e0),(zu x.qz.e1),(zu x.qz.e2),(zu x.qz.e3),(zu x.qz.e4),(zu x.qz.e5),(zu x.qz.e6),(zu x.qz.e7),(zu x.qz.e8),(zu x.qz.e9),(zu x.qz.e10),(zu x.qz.e11),(zu x.qz.e12),(zu x.qz.e13),(zu x.qz.e14),(zu x.qz.e15),(zu x.pC)],.cells 112 [.own 2],.arr 46 (.i .u32) ws] (zto s p qu x ws) to69:=zM GC4 (H:=H0) zJ Tryz.func69 rfl (by kernel_rfl) (fun J=>by kernel_rfl)
abbrev zGA:=Bool × Int × ze
def zFV(r:zGA):Ans:=⟨.tup [(avB r.1),(zg r.2.1)],[.cells 112 [.own 1],.arr 46 (.i .u32) r.2.2.qx]⟩
def zkt(k:zbA)(message:(List Int))(ws:List Int):Option zGA:=Tree.run0 <|
 .b (zkw k.ends.qn k.ends.qx k.qy message ws) fun r1=>
 .r (r1.1,r1.2.1,r1.2.2)
theorem zJc(k:zbA)(message:(List Int))(ws:List Int):Oks 205 [.agg (Ty.enc .sDuctRow k),.ref 0 0,.sl (.i .u32) message] [.cells 112 [.own 1],.arr 46 (.i .u32) ws] (zkt k message ws) zFV:=zM GC4 (H:=H0) zJ Tryz.func205 rfl (by kernel_rfl) (fun J=>by kernel_rfl)
abbrev zGC:=Int × ze
def zFX(r:zGC):Ans:=⟨(zg r.1),[.cells 112 [.own 1],.arr 46 (.i .u32) r.2.qx]⟩
def ze4(k:zbA)(ws:List Int):Option zGC:=Tree.run0 <|
 .b (zky k.ends.qn k.ends.qx k.qy k.ends.qt ws) fun r1=>
 .r (r1.1,r1.2)
theorem zJe(k:zbA)(ws:List Int):Oks 207 [.agg (Ty.enc .sDuctRow k),.ref 0 0] [.cells 112 [.own 1],.arr 46 (.i .u32) ws] (ze4 k ws) zFX:=zM GC4 (H:=H0) zJ Tryz.func207 rfl (by kernel_rfl) (fun J=>by kernel_rfl)
abbrev R126:=zx
def zP1(r:R126):Ans:=⟨.agg [(zg r.e),(zg r.where_.first),(zg r.where_.second)],[]⟩
def zq6(a:za):Option R126:=Tree.run0 <|
 .b (zkn a) fun r1=>
 .r (zag r1 423 nowhere)
theorem zBq(a:za):Oks 126 [.op .sConfig (some a)] [] (zq6 a) zP1:=zM GC4 (H:=H0) zJ Tryz.func126 rfl (by kernel_rfl) (fun J=>by kernel_rfl)
def g62(args:List AV)(hp:List Blk):Option Rsp:=
 match args,hp with
 | [.ref 0 0],[.cells 116 [.op .sCallsCalls y0,.ref 1 0,.v (.int .i64 y1),.v (.int .i64 y2),.v (.int .u32 y3),.v (.int .u32 y4),.v (.int .u32 y5),.v (.int .u32 y6),.v (.int .u32 y7),.v (.int .u32 y8),.v (.int .u32 y9),.v (.int .u32 y10),.v (.int .u32 y11),.v (.int .u32 y12),.v (.int .u32 y13),.v (.int .u32 y14),.v (.int .u32 y15),.v (.int .u32 y16),.v (.int .u32 y17),.v (.int .u32 y18),.v (.int .u32 y19)],.cells 112 [.own 2],.arr 46 (.i .u32) y20]=>some ⟨R62,(zti y0 y1 y2 (⟨(⟨y3,y4,y5,y6,y7,y8,y9,y10,y11,y12,y13,y14,y15,y16,y17,y18⟩:z6),y19⟩:zB) y20),to62,default⟩
 | _,_=>none
def k62:Fk 62:=⟨g62,fun args hp y h x hx=>by
 unfold g62 at h
 split at h
 . cases h;exact(zOh _ _ _ _ _).ats (.cons (fun _ _ _ _ h=>h) .nil) hx
 . cases h⟩
def g69(args:List AV)(hp:List Blk):Option Rsp:=
 match args,hp with
 | [.ref 0 0],[.cells 116 [.op .sCallsCalls y0,.ref 1 0,.v (.int .i64 y1),.v (.int .i64 y2),.v (.int .u32 y3),.v (.int .u32 y4),.v (.int .u32 y5),.v (.int .u32 y6),.v (.int .u32 y7),.v (.int .u32 y8),.v (.int .u32 y9),.v (.int .u32 y10),.v (.int .u32 y11),.v (.int .u32 y12),.v (.int .u32 y13),.v (.int .u32 y14),.v (.int .u32 y15),.v (.int .u32 y16),.v (.int .u32 y17),.v (.int .u32 y18),.v (.int .u32 y19)],.cells 112 [.own 2],.arr 46 (.i .u32) y20]=>some ⟨R69,(zto y0 y1 y2 (⟨(⟨y3,y4,y5,y6,y7,y8,y9,y10,y11,y12,y13,y14,y15,y16,y17,y18⟩:z6),y19⟩:zB) y20),to69,default⟩
 | _,_=>none
def k69:Fk 69:=⟨g69,fun args hp y h x hx=>by
 unfold g69 at h
 split at h
 . cases h;exact(zOo _ _ _ _ _).ats (.cons (fun _ _ _ _ h=>h) .nil) hx
 . cases h⟩
def k89:Fk 89:=aF (aS .sConfig fun a0=>aE (zOI a0))
def g99(args:List AV)(hp:List Blk):Option Rsp:=
 match args,hp with
 | [.ref 0 0,a1,a2,a3],[.cells 116 [.op .sCallsCalls y0,.ref 1 0,.v (.int .i64 y1),.v (.int .i64 y2),.v (.int .u32 y3),.v (.int .u32 y4),.v (.int .u32 y5),.v (.int .u32 y6),.v (.int .u32 y7),.v (.int .u32 y8),.v (.int .u32 y9),.v (.int .u32 y10),.v (.int .u32 y11),.v (.int .u32 y12),.v (.int .u32 y13),.v (.int .u32 y14),.v (.int .u32 y15),.v (.int .u32 y16),.v (.int .u32 y17),.v (.int .u32 y18),.v (.int .u32 y19)],.cells 112 [.own 2],.arr 46 (.i .u32) y20]=>(rdL (.i .u32) a1).bind fun b1=>(rdL (.i .i64) a2).bind fun b2=>(rdL (.i .i64) a3).bind fun b3=>some ⟨R99,(zpC b1 b2 b3 y0 y1 y2 (⟨(⟨y3,y4,y5,y6,y7,y8,y9,y10,y11,y12,y13,y14,y15,y16,y17,y18⟩:z6),y19⟩:zB) y20),to99,default⟩
 | _,_=>none
def k99:Fk 99:=⟨g99,fun args hp y h x hx=>by
 unfold g99 at h
 split at h
 . simp only[Option.bind_eq_some_iff]at h
   obtain ⟨b1,h1,b2,h2,b3,h3,h⟩:=h
   cases h;exact(zOS b1 b2 b3 _ _ _ _ _).ats (.cons (fun _ _ _ _ h=>h) (.cons (z9 h1) (.cons (z9 h2) (.cons (z9 h3) .nil)))) hx
 . cases h⟩
def g102(args:List AV)(hp:List Blk):Option Rsp:=
 match args,hp with
 | [a0,.ref 0 0,a2,a3],[.cells 112 [.own 1],.arr 46 (.i .u32) y0]=>(rdL (.p .sDuctDucts) a0).bind fun b0=>(rdL (.i .i64) a2).bind fun b2=>(rdL (.i .i64) a3).bind fun b3=>some ⟨zGn,(znf b0 b2 b3 y0),zFE,default⟩
 | _,_=>none
def k102:Fk 102:=⟨g102,fun args hp y h x hx=>by
 unfold g102 at h
 split at h
 . simp only[Option.bind_eq_some_iff]at h
   obtain ⟨b0,h0,b2,h2,b3,h3,h⟩:=h
   cases h;exact(zH6 b0 b2 b3 _).ats (.cons (z9 h0) (.cons (fun _ _ _ _ h=>h) (.cons (z9 h2) (.cons (z9 h3) .nil)))) hx
 . cases h⟩
def k126:Fk 126:=aF (aP .sConfig fun a0=>aE (zBq a0))
def g203(args:List AV)(hp:List Blk):Option Rsp:=
 match args,hp with
 | [a0,.ref 0 0,a2],[.cells 112 [.own 1],.arr 46 (.i .u32) y0]=>(rdS .sDuctRow a0).bind fun b0=>(rdL (.i .i64) a2).bind fun b2=>some ⟨zGy,(zkr b0 b2 y0),zFT,default⟩
 | _,_=>none
def k203:Fk 203:=⟨g203,fun args hp y h x hx=>by
 unfold g203 at h
 split at h
 . simp only[Option.bind_eq_some_iff]at h
   obtain ⟨b0,h0,b2,h2,h⟩:=h
   cases h;exact(zJa b0 b2 _).ats (.cons (zcy h0) (.cons (fun _ _ _ _ h=>h) (.cons (z9 h2) .nil))) hx
 . cases h⟩
def g204(args:List AV)(hp:List Blk):Option Rsp:=
 match args,hp with
 | [a0,.ref 0 0,a2],[.cells 112 [.own 1],.arr 46 (.i .u32) y0]=>(rdS .sDuctRow a0).bind fun b0=>(rdL (.i .i64) a2).bind fun b2=>some ⟨zGz,(zks b0 b2 y0),zFU,default⟩
 | _,_=>none
def k204:Fk 204:=⟨g204,fun args hp y h x hx=>by
 unfold g204 at h
 split at h
 . simp only[Option.bind_eq_some_iff]at h
   obtain ⟨b0,h0,b2,h2,h⟩:=h
   cases h;exact(zJb b0 b2 _).ats (.cons (zcy h0) (.cons (fun _ _ _ _ h=>h) (.cons (z9 h2) .nil))) hx
 . cases h⟩
def g205(args:List AV)(hp:List Blk):Option Rsp:=
 match args,hp with
 | [a0,.ref 0 0,a2],[.cells 112 [.own 1],.arr 46 (.i .u32) y0]=>(rdS .sDuctRow a0).bind fun b0=>(rdL (.sl (.i .u32)) a2).bind fun b2=>some ⟨zGA,(zkt b0 b2 y0),zFV,default⟩
 | _,_=>none
def k205:Fk 205:=⟨g205,fun args hp y h x hx=>by
 unfold g205 at h
 split at h
 . simp only[Option.bind_eq_some_iff]at h
   obtain ⟨b0,h0,b2,h2,h⟩:=h
   cases h;exact(zJc b0 b2 _).ats (.cons (zcy h0) (.cons (fun _ _ _ _ h=>h) (.cons (z9 h2) .nil))) hx
 . cases h⟩
def g206(args:List AV)(hp:List Blk):Option Rsp:=
 match args,hp with
 | [a0,.ref 0 0],[.cells 112 [.own 1],.arr 46 (.i .u32) y0]=>(rdS .sDuctRow a0).bind fun b0=>some ⟨zGB,(zku b0 y0),zFW,default⟩
 | _,_=>none
def k206:Fk 206:=⟨g206,fun args hp y h x hx=>by
 unfold g206 at h
 split at h
 . simp only[Option.bind_eq_some_iff]at h
   obtain ⟨b0,h0,h⟩:=h
   cases h;exact(zJd b0 _).ats (.cons (zcy h0) (.cons (fun _ _ _ _ h=>h) .nil)) hx
 . cases h⟩
def g207(args:List AV)(hp:List Blk):Option Rsp:=
 match args,hp with
 | [a0,.ref 0 0],[.cells 112 [.own 1],.arr 46 (.i .u32) y0]=>(rdS .sDuctRow a0).bind fun b0=>some ⟨zGC,(ze4 b0 y0),zFX,default⟩
 | _,_=>none
def k207:Fk 207:=⟨g207,fun args hp y h x hx=>by
 unfold g207 at h
 split at h
 . simp only[Option.bind_eq_some_iff]at h
   obtain ⟨b0,h0,h⟩:=h
   cases h;exact(zJe b0 _).ats (.cons (zcy h0) (.cons (fun _ _ _ _ h=>h) .nil)) hx
 . cases h⟩
def k215:Fk 215:=aF (aS .sDuctLast fun a0=>aL (.p .sMemMemory) fun a1=>aL (.i .i64) fun a2=>aE (zJm a0 a1 a2))
def g219(args:List AV)(hp:List Blk):Option Rsp:=
 match args,hp with
 | [a0,.ref 0 0],[.cells 112 [.own 1],.arr 46 (.i .u32) y0]=>(rdS .sDuctLast a0).bind fun b0=>some ⟨zGJ,(ze5 b0 y0),zF6,default⟩
 | _,_=>none
def k219:Fk 219:=⟨g219,fun args hp y h x hx=>by
 unfold g219 at h
 split at h
 . simp only[Option.bind_eq_some_iff]at h
   obtain ⟨b0,h0,h⟩:=h
   cases h;exact(zJq b0 _).ats (.cons (zcy h0) (.cons (fun _ _ _ _ h=>h) .nil)) hx
 . cases h⟩
def ask(x:Clo):Option zx:=match x with
 | .c113 c0=>some (zFw c0)
 | .c116 c0=>some (zFx c0)
 | .c117 c0=>some (zFy c0)
 | .c118 c0=>some (zFz c0)
 | .c119 c0=>some (zFA c0)
 | .c120 c0 c1=>zq0 c0 c1
 | .c122 c0 c1=>zq2 c0 c1
 | .c124 c0 c1=>zq4 c0 c1
 | .c126 c0=>zq6 c0
 | _=>none
def zHD(x:Clo)(args:List AV)(hp:List Blk):Option Rsp:=
 match hp,args with
 | [],[]=>some ⟨zx,ask x,fun r=>⟨.agg [(zg r.e),(zg r.where_.first),(zg r.where_.second)],[]⟩,default⟩
 | _,_=>none
theorem zDA{z:Clo}{args:List AV}{hp:List Blk}{y:Rsp}(h:zHD z args hp=some y)(x:y.R)(hx:y.o=some x):OkC Pr GL (.c z) args hp (y.to x):=by
 unfold zHD at h
 split at h
 . cases h
   cases z with
   | none=>cases hx
   | c113 c0=>exact⟨113,_,by kernel_rfl,(zBi c0).ats (Ats.refl _) hx⟩
   | c116 c0=>exact⟨116,_,by kernel_rfl,(zBj c0).ats (Ats.refl _) hx⟩
   | c117 c0=>exact⟨117,_,by kernel_rfl,(zBk c0).ats (Ats.refl _) hx⟩
   | c118 c0=>exact⟨118,_,by kernel_rfl,(zBl c0).ats (Ats.refl _) hx⟩
   | c119 c0=>exact⟨119,_,by kernel_rfl,(zBm c0).ats (Ats.refl _) hx⟩
   | c120 c0 c1=>exact⟨120,_,by kernel_rfl,(zBn c0 c1).ats (Ats.refl _) hx⟩
   | c122 c0 c1=>exact⟨122,_,by kernel_rfl,(zBo c0 c1).ats (Ats.refl _) hx⟩
   | c124 c0 c1=>exact⟨124,_,by kernel_rfl,(zBp c0 c1).ats (Ats.refl _) hx⟩
   | c126 c0=>exact⟨126,_,by kernel_rfl,(zBq c0).ats (Ats.refl _) hx⟩
 . cases h
def clo:Ck where
 g x args hp:=match args with
  | []=>zHD x [] hp
  | _=>none
 ok:=fun h x hx=>by
  split at h
  . exact zDA h x hx
  . cases h
def GC5:GK:=gamC clo (zhZ [⟨62,k62⟩,⟨69,k69⟩,⟨89,k89⟩,⟨99,k99⟩,⟨102,k102⟩,⟨126,k126⟩,⟨203,k203⟩,⟨204,k204⟩,⟨205,k205⟩,⟨206,k206⟩,⟨207,k207⟩,⟨215,k215⟩,⟨219,k219⟩] GC4)
abbrev R50:=Int × za0
def to50(r:R50):Ans:=⟨.tup [(zg r.1),.agg [(zg r.2.first),(zg r.2.second)]],[]⟩
inductive L50 where | l0 (x0:Int) | l4 (x0:Int) | l8 (x0:Int)
def H50:zab:=htt [] [(0,⟨fgt [1,3,5] 73 0,[]⟩),(4,⟨fgt [1,3,8] 73 0,[]⟩),(8,⟨fgt [1,3,10] 73 0,[]⟩)] []
def st50(c:za):L50->Nat × St | .l0 x0=>(0,⟨mkE [(1,.ref 0 0),(3,.ref 1 0),(5,(zg x0))] 73 0,[.cells 26 (Ty.enc .sConfig c),.cells 144 [(zg 0),(zg 0)]],GL,0,[],zN⟩) | .l4 x0=>(4,⟨mkE [(1,.ref 0 0),(3,.ref 1 0),(8,(zg x0))] 73 0,[.cells 26 (Ty.enc .sConfig c),.cells 144 [(zg 0),(zg 0)]],GL,0,[],zN⟩) | .l8 x0=>(8,⟨mkE [(1,.ref 0 0),(3,.ref 1 0),(10,(zg x0))] 73 0,[.cells 26 (Ty.enc .sConfig c),.cells 144 [(zg 0),(zg 0)]],GL,0,[],zN⟩)
def zkJ(c:za):L50->Tree L50 R50 | .l0 x0=>.c (decide (x0<c.qq.length)) (.b (zwm c x0) fun r1=>.c (!((r1.1:Int)==0)) (.r (r1.1,r1.2)) (.j (.l0 (i64.wrap (x0+1))))) (.j (.l4 0)) | .l4 x0=>.c (decide (x0<c.qw.length)) (.b (zwn c x0) fun r2=>.c (!((r2:Int)==0)) (.r (r2,(zlv x0))) (.j (.l4 (i64.wrap (x0+1))))) (.j (.l8 0)) | .l8 x0=>.c (decide (x0<c.qp.length)) (.b (zwo c x0) fun r3=>.c (!((r3.1:Int)==0)) (.r (r3.1,r3.2)) (.j (.l8 (i64.wrap (x0+1))))) (.b (zpz c) fun r4=>.c (!r4) (.r (423,zJW)) (.r (0,(⟨0,0⟩:za0))))
def zEW(c:za):Tree L50 R50:=.c (!(((zyf c):Int)==0)) (.r ((zyf c),zJW)) (.j (.l0 0))
def zjg(c:za):L50->Option R50:=zal (zkJ c)
theorem zfp(c:za)(l:L50):zjg c l=(zkJ c l).run (zjg c):=zE _ l
def zfv(c:za):Option R50:=(zEW c).run (zjg c)
theorem zN5(c:za):Oks 50 [.agg (Ty.enc .sConfig c)] [] (zfv c) to50:=zL GC5 (H:=H50) zJ Tryz.func50 rfl (by kernel_rfl) (st50 c) (fun J l=>by cases l <;> kernel_rfl) (fun J=>by kernel_rfl)
abbrev zGo:=Int × Int × Int × Int × ze
def zFG(r:zGo):Ans:=⟨.tup [(zg r.1),(zu r.2.1),(zu r.2.2.1),(zg r.2.2.2.1)],[.cells 112 [.own 1],.arr 46 (.i .u32) r.2.2.2.2.qx]⟩
def zng(d:(Option zG))(p:Int)(port:Int)(ws:List Int):Option zGo:=Tree.run0 <|
 .b (zlj d (some (⟨ws⟩:ze))) fun r1=>
 .c (!((r1:Int)==0))
 (.r (0,0,0,r1,(⟨ws⟩:ze)))
 (.b (zhL d p port) fun r2=>
 .c (!r2.2)
 (.r (1,0,0,0,(⟨ws⟩:ze)))
 (.o (zju d r2.1.ql) (fun r3=>
 .c r2.1.qb
 (.b (zku r3 ws) fun r4=>
 .r (0,(u32.wrap r4.1),0,r4.2.1,r4.2.2))
 (.b (zgM d p port r2.1.ql) fun r5=>
 .b (zkr r3 r5 ws) fun r6=>
 .c (!((r6.2.2.1:Int)==0))
 (.r (0,0,0,r6.2.2.1,r6.2.2.2))
 (.r (0,r6.1,r6.2.1,0,r6.2.2.2))))
 (.b (zck d r2.1.ql) fun r7=>
 .c r2.1.qb
 (.b (znu r7 (some (⟨ws⟩:ze))) fun r8=>
 .r (0,(u32.wrap r8.1),0,r8.2,(⟨ws⟩:ze)))
 (.b (zgM d p port r2.1.ql) fun r9=>
 .b (znt r7 (some (⟨ws⟩:ze)) r9) fun r10=>
 .c (!((r10.2.2:Int)==0))
 (.r (0,0,0,r10.2.2,(⟨ws⟩:ze)))
 (.r (0,r10.1,r10.2.1,0,(⟨ws⟩:ze)))))))
theorem zH8(d:(Option zG))(p:Int)(port:Int)(ws:List Int):Oks 104 [.op .sDuctDucts d,.ref 0 0,(zg p),(zg port)] [.cells 112 [.own 1],.arr 46 (.i .u32) ws] (zng d p port ws) zFG:=zM GC5 (H:=H0) zJ Tryz.func104 rfl (by kernel_rfl) (fun J=>by kernel_rfl)
abbrev zC3:=Int × (List Int) × Int × Int × ze
def zFD(r:zC3):Ans:=⟨.tup [(zg r.1),.sl (.i .u32) r.2.1,(zu r.2.2.1),(zg r.2.2.2.1)],[.cells 112 [.own 1],.arr 46 (.i .u32) r.2.2.2.2.qx]⟩
def H101:zab:=⟨fun _=>false,fun _=>⟨[],[]⟩,[(.slot 1,.sl (.i .u32))],G0,zN⟩
def zne(d:(Option zG))(p:Int)(port:Int)(ws:List Int):Option zC3:=Tree.run0 <|
 .b (zlj d (some (⟨ws⟩:ze))) fun r1=>
 .c (!((r1:Int)==0))
 (.r (0,[],0,r1,(⟨ws⟩:ze)))
 (.b (zhL d p port) fun r2=>
 .c (!r2.2)
 (.r (1,[],0,0,(⟨ws⟩:ze)))
 (.c r2.1.qb
 (.r (2,[],0,0,(⟨ws⟩:ze)))
 (.o (zju d r2.1.ql) (fun r3=>
 .b (zgM d p port r2.1.ql) fun r4=>
 .b (zks r3 r4 ws) fun r6=>
 .c (!((r6.2.2.2.1:Int)==0))
 (.r (0,[],0,r6.2.2.2.1,r6.2.2.2.2))
 (.c (!r6.2.2.1)
 (.r (6,[],0,0,r6.2.2.2.2))
 (.r (0,r6.1,r6.2.1,0,r6.2.2.2.2))))
 (.b (zck d r2.1.ql) fun r7=>
 .b (zgM d p port r2.1.ql) fun r8=>
 .b (zgR r7 (some (⟨ws⟩:ze)) r8) fun r9=>
 .c (!((r9.2.2.2:Int)==0))
 (.r (0,[],0,r9.2.2.2,(⟨ws⟩:ze)))
 (.c (!r9.2.2.1)
 (.r (6,[],0,0,(⟨ws⟩:ze)))
 (.r (0,r9.1,r9.2.1,0,(⟨ws⟩:ze))))))))
theorem zH5(d:(Option zG))(p:Int)(port:Int)(ws:List Int):Oks 101 [.op .sDuctDucts d,.ref 0 0,(zg p),(zg port)] [.cells 112 [.own 1],.arr 46 (.i .u32) ws] (zne d p port ws) zFD:=zM GC5 (H:=H101) zJ Tryz.func101 rfl (by kernel_rfl) (fun J=>by kernel_rfl)
abbrev R75:=(List Clo)
def to75(r:R75):Ans:=⟨.own 0,[.arr 192 .f r]⟩
inductive L75 where | l0 (x0:Int) (x1:List Clo) | l4 (x0:Int) (x1:List Clo) | l8 (x0:Int) (x1:List Clo)
def H75:zab:=htt [] [(0,⟨fgt [1,3,15,16] 50 0,[]⟩),(4,⟨fgt [1,3,26,27] 50 0,[]⟩),(8,⟨fgt [1,3,37,38] 50 0,[]⟩)] []
def st75(c:za):L75->Nat × St | .l0 x0 x1=>(0,⟨mkE [(1,.ref 0 0),(3,.own 1),(15,(zg c.qq.length)),(16,(zg x0))] 50 0,[.rob .sConfig c,.arr 192 .f x1],GL,0,[],zN⟩) | .l4 x0 x1=>(4,⟨mkE [(1,.ref 0 0),(3,.own 1),(26,(zg c.qw.length)),(27,(zg x0))] 50 0,[.rob .sConfig c,.arr 192 .f x1],GL,0,[],zN⟩) | .l8 x0 x1=>(8,⟨mkE [(1,.ref 0 0),(3,.own 1),(37,(zg c.qp.length)),(38,(zg x0))] 50 0,[.rob .sConfig c,.arr 192 .f x1],GL,0,[],zN⟩)
def zkM(c:za):L75->Tree L75 R75 | .l0 x0 x1=>.c (decide (x0<c.qq.length)) (.g (leB (((x1:List Clo).length+([(Clo.c120 c x0)]:List Clo).length)*8) 140737488355328) <| .j (.l0 (i64.wrap (x0+1)) ((x1:List Clo)++[(Clo.c120 c x0)]))) (.j (.l4 0 x1)) | .l4 x0 x1=>.c (decide (x0<c.qw.length)) (.g (leB (((x1:List Clo).length+([(Clo.c122 c x0)]:List Clo).length)*8) 140737488355328) <| .j (.l4 (i64.wrap (x0+1)) ((x1:List Clo)++[(Clo.c122 c x0)]))) (.j (.l8 0 x1)) | .l8 x0 x1 =>let y1:=(x1:List Clo);.c (decide (x0<c.qp.length)) (.g (leB ((y1.length+([(Clo.c124 c x0)]:List Clo).length)*8) 140737488355328) <| .j (.l8 (i64.wrap (x0+1)) (y1++[(Clo.c124 c x0)]))) (.g (leB ((y1.length+([(Clo.c126 c)]:List Clo).length)*8) 140737488355328) <| .r (y1++[(Clo.c126 c)]))
def zMD(c:za):Tree L75 R75:=.j (.l0 0 [(Clo.c113 c),(Clo.c116 c),(Clo.c117 c),(Clo.c118 c),(Clo.c119 c)])
def znc(c:za):L75->Option R75:=zal (zkM c)
theorem zfs(c:za)(l:L75):znc c l=(zkM c l).run (znc c):=zE _ l
def zCa(c:za):Option R75:=(zMD c).run (znc c)
theorem zOu(c:za):Oks 75 [.agg (Ty.enc .sConfig c)] [] (zCa c) to75:=zL GC5 (H:=H75) zJ Tryz.func75 rfl (by kernel_rfl) (st75 c) (fun J l=>by cases l <;> kernel_rfl) (fun J=>by kernel_rfl)
abbrev zGm:=Int × Int × ze
def zFC(r:zGm):Ans:=⟨.tup [(zg r.1),(zg r.2.1)],[.cells 112 [.own 1],.arr 46 (.i .u32) r.2.2.qx]⟩
def znd(d:(Option zG))(p:Int)(port:Int)(message:(List Int))(ws:List Int):Option zGm:=Tree.run0 <|
 .b (zlj d (some (⟨ws⟩:ze))) fun r1=>
 .c (!((r1:Int)==0))
 (.r (0,r1,(⟨ws⟩:ze)))
 (.b (zpB d p port) fun r2=>
 .c (!((r2.2:Int)==0))
 (.r (r2.2,0,(⟨ws⟩:ze)))
 (.c ((message.length:Int)==0)
 (.r (3,0,(⟨ws⟩:ze)))
 (.c (decide ((message.length:Int)>r2.1))
 (.r (3,0,(⟨ws⟩:ze)))
 (.b (zhL d p port) fun r3=>
 .o (zju d r3.1.ql) (fun r4=>
 .b (zkt r4 message ws) fun r5=>
 .c ((r5.2.1:Int)==0)
 (.c (!r5.1)
 (.r (5,0,r5.2.2))
 (.r (0,r5.2.1,r5.2.2)))
 (.r (0,r5.2.1,r5.2.2)))
 (.b (zck d r3.1.ql) fun r6=>
 .b (zkz r6 message ws) fun r7=>
 .c ((r7.2.1:Int)==0)
 (.c (!r7.1)
 (.r (5,0,r7.2.2))
 (.r (0,r7.2.1,r7.2.2)))
 (.r (0,r7.2.1,r7.2.2)))))))
theorem zH4(d:(Option zG))(p:Int)(port:Int)(message:(List Int))(ws:List Int):Oks 100 [.op .sDuctDucts d,.ref 0 0,(zg p),(zg port),.sl (.i .u32) message] [.cells 112 [.own 1],.arr 46 (.i .u32) ws] (znd d p port message ws) zFC:=zM GC5 (H:=H0) zJ Tryz.func100 rfl (by kernel_rfl) (fun J=>by kernel_rfl)
abbrev R34:=Int × ze
def to34(r:R34):Ans:=⟨(zg r.1),[.cells 112 [.own 1],.arr 46 (.i .u32) r.2.qx]⟩
inductive L34 where | l0 (x0:Int) (x1:List Int) | l4 (x0:Int) (x1:List Int)
def H34:zab:=htt [] [(0,⟨fgt [0,1,6,23,24] 51 0,[]⟩),(4,⟨fgt [0,1,41,42] 51 0,[]⟩)] []
def st34(d:(Option zG))(ws:List Int):L34->Nat × St | .l0 x0 x1=>(0,⟨mkE [(0,.op .sDuctDucts d),(1,.ref 0 0),(6,.ref 2 0),(23,(zg (((d.getD default).c.qw).length))),(24,(zg x0))] 51 0,[.cells 112 [.own 1],.arr 46 (.i .u32) ws,.cells 112 [.own 3],.arr 46 (.i .u32) x1],GL,2,[],zN⟩) | .l4 x0 x1=>(4,⟨mkE [(0,.op .sDuctDucts d),(1,.ref 0 0),(41,(zg (((d.getD default).c.qw).length))),(42,(zg x0))] 51 0,[.cells 112 [.own 1],.arr 46 (.i .u32) x1],GL,2,[],zN⟩)
def zkH(d:(Option zG))(ws:List Int):L34->Tree L34 R34 | .l0 x0 x1 =>let y1:=i64.wrap (x0+1);let y2:=(⟨ws⟩:ze);.c (decide (x0<((d.getD default).c.qw).length)) (.o (zju d x0) (fun r3=>.b (ze4 r3 x1) fun r4=>.c (!((r4.1:Int)==0)) (.r (r4.1,y2)) (.j (.l0 y1 r4.2.qx))) (.b (zck d x0) fun r5=>.b (ze5 r5 x1) fun r6=>.c (!((r6.1:Int)==0)) (.r (r6.1,y2)) (.j (.l0 y1 r6.2.qx)))) (.g d.isSome <| .j (.l4 0 ws)) | .l4 x0 x1 =>let y1:=i64.wrap (x0+1);.c (decide (x0<((d.getD default).c.qw).length)) (.o (zju d x0) (fun r7=>.b (ze4 r7 x1) fun r8=>.j (.l4 y1 r8.2.qx)) (.b (zck d x0) fun r9=>.b (ze5 r9 x1) fun r10=>.j (.l4 y1 r10.2.qx))) (.r (0,(⟨x1⟩:ze)))
def zEP(d:(Option zG))(ws:List Int):Tree L34 R34:=.b (zlj d (some (⟨ws⟩:ze))) fun r1=>.c (!((r1:Int)==0)) (.r (r1,(⟨ws⟩:ze))) (.b (zwj (some (⟨ws⟩:ze))) fun r2=>.g d.isSome <| .j (.l0 0 r2.qx))
def zm8(d:(Option zG))(ws:List Int):L34->Option R34:=zal (zkH d ws)
theorem zje(d:(Option zG))(ws:List Int)(l:L34):zm8 d ws l=(zkH d ws l).run (zm8 d ws):=zE _ l
def zte(d:(Option zG))(ws:List Int):Option R34:=(zEP d ws).run (zm8 d ws)
theorem zNR(d:(Option zG))(ws:List Int):Oks 34 [.op .sDuctDucts d,.ref 0 0] [.cells 112 [.own 1],.arr 46 (.i .u32) ws] (zte d ws) to34:=zL GC5 (H:=H34) zJ Tryz.func34 rfl (by kernel_rfl) (st34 d ws) (fun J l=>by cases l <;> kernel_rfl) (fun J=>by kernel_rfl)
def g34(args:List AV)(hp:List Blk):Option Rsp:=
 match args,hp with
 | [a0,.ref 0 0],[.cells 112 [.own 1],.arr 46 (.i .u32) y0]=>(rdL (.p .sDuctDucts) a0).bind fun b0=>some ⟨R34,(zte b0 y0),to34,default⟩
 | _,_=>none
def k34:Fk 34:=⟨g34,fun args hp y h x hx=>by
 unfold g34 at h
 split at h
 . simp only[Option.bind_eq_some_iff]at h
   obtain ⟨b0,h0,h⟩:=h
   cases h;exact(zNR b0 _).ats (.cons (z9 h0) (.cons (fun _ _ _ _ h=>h) .nil)) hx
 . cases h⟩
def k50:Fk 50:=aF (aS .sConfig fun a0=>aE (zN5 a0))
def k75:Fk 75:=aF (aS .sConfig fun a0=>aE (zOu a0))
def g100(args:List AV)(hp:List Blk):Option Rsp:=
 match args,hp with
 | [a0,.ref 0 0,a2,a3,a4],[.cells 112 [.own 1],.arr 46 (.i .u32) y0]=>(rdL (.p .sDuctDucts) a0).bind fun b0=>(rdL (.i .i64) a2).bind fun b2=>(rdL (.i .i64) a3).bind fun b3=>(rdL (.sl (.i .u32)) a4).bind fun b4=>some ⟨zGm,(znd b0 b2 b3 b4 y0),zFC,default⟩
 | _,_=>none
def k100:Fk 100:=⟨g100,fun args hp y h x hx=>by
 unfold g100 at h
 split at h
 . simp only[Option.bind_eq_some_iff]at h
   obtain ⟨b0,h0,b2,h2,b3,h3,b4,h4,h⟩:=h
   cases h;exact(zH4 b0 b2 b3 b4 _).ats (.cons (z9 h0) (.cons (fun _ _ _ _ h=>h) (.cons (z9 h2) (.cons (z9 h3) (.cons (z9 h4) .nil))))) hx
 . cases h⟩
def g101(args:List AV)(hp:List Blk):Option Rsp:=
 match args,hp with
 | [a0,.ref 0 0,a2,a3],[.cells 112 [.own 1],.arr 46 (.i .u32) y0]=>(rdL (.p .sDuctDucts) a0).bind fun b0=>(rdL (.i .i64) a2).bind fun b2=>(rdL (.i .i64) a3).bind fun b3=>some ⟨zC3,(zne b0 b2 b3 y0),zFD,default⟩
 | _,_=>none
def k101:Fk 101:=⟨g101,fun args hp y h x hx=>by
 unfold g101 at h
 split at h
 . simp only[Option.bind_eq_some_iff]at h
   obtain ⟨b0,h0,b2,h2,b3,h3,h⟩:=h
   cases h;exact(zH5 b0 b2 b3 _).ats (.cons (z9 h0) (.cons (fun _ _ _ _ h=>h) (.cons (z9 h2) (.cons (z9 h3) .nil)))) hx
 . cases h⟩
def g104(args:List AV)(hp:List Blk):Option Rsp:=
 match args,hp with
 | [a0,.ref 0 0,a2,a3],[.cells 112 [.own 1],.arr 46 (.i .u32) y0]=>(rdL (.p .sDuctDucts) a0).bind fun b0=>(rdL (.i .i64) a2).bind fun b2=>(rdL (.i .i64) a3).bind fun b3=>some ⟨zGo,(zng b0 b2 b3 y0),zFG,default⟩
 | _,_=>none
def k104:Fk 104:=⟨g104,fun args hp y h x hx=>by
 unfold g104 at h
 split at h
 . simp only[Option.bind_eq_some_iff]at h
   obtain ⟨b0,h0,b2,h2,b3,h3,h⟩:=h
   cases h;exact(zH8 b0 b2 b3 _).ats (.cons (z9 h0) (.cons (fun _ _ _ _ h=>h) (.cons (z9 h2) (.cons (z9 h3) .nil)))) hx
 . cases h⟩
def GC6:GK:=zhZ [⟨34,k34⟩,⟨50,k50⟩,⟨75,k75⟩,⟨100,k100⟩,⟨101,k101⟩,⟨104,k104⟩] GC5
abbrev R63:=zaN × Int × zah
def to63(r:R63):Ans:=⟨.tup [.agg [(zu r.1.one),(zu r.1.two),(zu r.1.three)],(zg r.2.1)],[.cells 116 [.op .sCallsCalls r.2.2.calls,.ref 1 0,(zg r.2.2.p),(zg r.2.2.qu),(zu r.2.2.x.qz.e0),(zu r.2.2.x.qz.e1),(zu r.2.2.x.qz.e2),(zu r.2.2.x.qz.e3),(zu r.2.2.x.qz.e4),(zu r.2.2.x.qz.e5),(zu r.2.2.x.qz.e6),(zu r.2.2.x.qz.e7),(zu r.2.2.x.qz.e8),(zu r.2.2.x.qz.e9),(zu r.2.2.x.qz.e10),(zu r.2.2.x.qz.e11),(zu r.2.2.x.qz.e12),(zu r.2.2.x.qz.e13),(zu r.2.2.x.qz.e14),(zu r.2.2.x.qz.e15),(zu r.2.2.x.pC)],.cells 112 [.own 2],.arr 46 (.i .u32) ((r.2.2.m.getD default).qx)]⟩
inductive L63 where | l2 (v0:R99) (x0:Int) (x1:List Int)
def H63:zab:=htt [] [(2,⟨fgt [0,2,4,10,75,76,77] 119 0,[(.slot 10,.own 46 (.i .u32))]⟩)] []
def st63(s:(Option zr))(p:Int)(qu:Int)(x:zB)(ws:List Int):L63->Nat × St | .l2 v0 x0 x1=>(2,⟨mkE [(0,.ref 0 0),(2,.ref 3 0),(4,(zg (i64.wrap x.qz.e1))),(10,.own 4),(75,.sl (.i .i64) v0.1),(76,(zg v0.1.length)),(77,(zg x0))] 119 0,[.cells 116 [.op .sCallsCalls v0.2.2.calls,.ref 1 0,(zg v0.2.2.p),(zg v0.2.2.qu),(zu v0.2.2.x.qz.e0),(zu v0.2.2.x.qz.e1),(zu v0.2.2.x.qz.e2),(zu v0.2.2.x.qz.e3),(zu v0.2.2.x.qz.e4),(zu v0.2.2.x.qz.e5),(zu v0.2.2.x.qz.e6),(zu v0.2.2.x.qz.e7),(zu v0.2.2.x.qz.e8),(zu v0.2.2.x.qz.e9),(zu v0.2.2.x.qz.e10),(zu v0.2.2.x.qz.e11),(zu v0.2.2.x.qz.e12),(zu v0.2.2.x.qz.e13),(zu v0.2.2.x.qz.e14),(zu v0.2.2.x.qz.e15),(zu v0.2.2.x.pC)],.cells 112 [.own 2],.arr 46 (.i .u32) ((v0.2.2.m.getD default).qx),.cells 118 [(zu 0),(zu 0),(zu 0)],.arr 46 (.i .u32) x1],GL,3,[],zN⟩)
def zve(s:(Option zr))(p:Int)(qu:Int)(x:zB)(ws:List Int):L63->Tree L63 R63 | .l2 v0 x0 x1 =>let y1:=v0.2.2.m.getD default;.c (decide (x0<v0.1.length)) (.g (zO x0 v0.1.length) <| .b (zeE (some y1) (zt v0.1 x0.toNat)) fun r3=>.g (leB (((x1:List Int).length+([r3.1]:List Int).length)*4) 140737488355328) <| .j (.l2 v0 (i64.wrap (x0+1)) ((x1:List Int)++[r3.1]))) (.g v0.2.2.calls.isSome <| .b (znd ((v0.2.2.calls.getD default).qg) v0.2.2.p (i64.wrap x.qz.e1) x1 (y1.qx)) fun r4=>.r ((zi8 r4.1),r4.2.1,(⟨v0.2.2.calls,(some r4.2.2),v0.2.2.p,v0.2.2.qu,v0.2.2.x⟩:zah)))
def zE4(s:(Option zr))(p:Int)(qu:Int)(x:zB)(ws:List Int):Tree L63 R63:=.g (zO 1 16) <| .g (zO 3 16) <| .g s.isSome <| .b (zpB ((s.getD default).qg) p (i64.wrap x.qz.e1)) fun r1=>.c (!((r1.2:Int)==0)) (.r ((zi8 r1.2),0,(⟨s,(some (⟨ws⟩:ze)),p,qu,x⟩:zah))) (.c (((i64.wrap x.qz.e3):Int)==0) (.r ((zi8 3),0,(⟨s,(some (⟨ws⟩:ze)),p,qu,x⟩:zah))) (.c (decide (((i64.wrap x.qz.e3):Int)>r1.1)) (.r ((zi8 3),0,(⟨s,(some (⟨ws⟩:ze)),p,qu,x⟩:zah))) (.g (zO 2 16) <| .b (zpC x.qz.e2 (i64.wrap x.qz.e3) 1 s p qu x ws) fun r2=>.c (!r2.2.1) (.r ((zi8 4),0,(⟨r2.2.2.calls,(some (r2.2.2.m.getD default)),r2.2.2.p,r2.2.2.qu,r2.2.2.x⟩:zah))) (.j (.l2 r2 0 [])))))
def zs0(s:(Option zr))(p:Int)(qu:Int)(x:zB)(ws:List Int):L63->Option R63:=zal (zve s p qu x ws)
theorem zs1(s:(Option zr))(p:Int)(qu:Int)(x:zB)(ws:List Int)(l:L63):zs0 s p qu x ws l=(zve s p qu x ws l).run (zs0 s p qu x ws):=zE _ l
def ztj(s:(Option zr))(p:Int)(qu:Int)(x:zB)(ws:List Int):Option R63:=(zE4 s p qu x ws).run (zs0 s p qu x ws)
theorem zOi(s:(Option zr))(p:Int)(qu:Int)(x:zB)(ws:List Int):Oks 63 [.ref 0 0] [.cells 116 [.op .sCallsCalls s,.ref 1 0,(zg p),(zg qu),(zu x.qz.e0),(zu x.qz.e1),(zu x.qz.e2),(zu x.qz.e3),(zu x.qz.e4),(zu x.qz.e5),(zu x.qz.e6),(zu x.qz.e7),(zu x.qz.e8),(zu x.qz.e9),(zu x.qz.e10),(zu x.qz.e11),(zu x.qz.e12),(zu x.qz.e13),(zu x.qz.e14),(zu x.qz.e15),(zu x.pC)],.cells 112 [.own 2],.arr 46 (.i .u32) ws] (ztj s p qu x ws) to63:=zL GC6 (H:=H63) zJ Tryz.func63 rfl (by kernel_rfl) (st63 s p qu x ws) (fun J l=>by cases l <;> kernel_rfl) (fun J=>by kernel_rfl)
abbrev R54:=(Option zaw) × Int
def to54(r:R54):Ans:=⟨.tup [.op .sBulkheadref22Devices r.1,(zg r.2)],[]⟩
inductive L54 where | l0 (x0:Int) (x1:Int) (x2:Int) (x3:Int) (x4:Int) (x5:List (List zan)) (x6:List zf) (x7:List zI) (x8:Int) (x9:List zk) (x10:List zF) (x11:Int) (x12:List z7) | l25 (x0:Int) (x1:Int) (x2:Int) (x3:Int) (x4:Int) (x5:List (List zan)) (x6:List zf) (x7:List zI) (x8:Int) (x9:List zk) (x10:List zF) (x11:Int) (x12:List z7)
def H54:zab:=htt [12] [(0,⟨fgt [1,8,9] 55 0,[(.box 8 11,.sl .sFeed)]⟩),(25,⟨fgt [1,8,9] 55 0,[(.box 8 11,.sl .sFeed)]⟩)] [(.slot 0,.op .sBulkheadref22Devices)]
def st54(c:za)(qi:(List z7)):L54->Nat × St | .l0 x0 x1 x2 x3 x4 x5 x6 x7 x8 x9 x10 x11 x12=>(0,⟨mkE [(1,.sl .sFeed qi),(8,.ref 0 0),(9,(zg x0))] 55 0,[.cells 232 [(zg x1),(zg x2),(zg x3),(zg x4),.sl (.sl .sWindow) x5,.sl .sPartition x6,.sl .sChannel x7,(zg x8),.sl .sPartitionPlace x9,.sl .sChannelPlace x10,(zg x11),.sl .sFeed x12]],GL,0,[],zN⟩) | .l25 x0 x1 x2 x3 x4 x5 x6 x7 x8 x9 x10 x11 x12=>(25,⟨mkE [(1,.sl .sFeed qi),(8,.ref 0 0),(9,(zg x0))] 55 0,[.cells 232 [(zg x1),(zg x2),(zg x3),(zg x4),.sl (.sl .sWindow) x5,.sl .sPartition x6,.sl .sChannel x7,(zg x8),.sl .sPartitionPlace x9,.sl .sChannelPlace x10,(zg x11),.sl .sFeed x12]],GL,0,[],zN⟩)
def zrH(c:za)(qi:(List z7)):L54->Tree L54 R54 | .l0 x0 x1 x2 x3 x4 x5 x6 x7 x8 x9 x10 x11 x12 =>let y1:=(⟨x1,x2,x3,x4,x5,x6,x7⟩:za);let y2:=(⟨x8,x9,x10,x11⟩:zaR);let y3:=zA qi x0.toNat;let y4:=zO x0 qi.length;.c (decide (x0<qi.length)) (.g y4 <| .c (decide (((y3.qx).length:Int)>0)) (.g y4 <| .b (ztr y3 y1 y2 x12) fun r5=>.j (.l25 x0 r5.c.qr r5.c.major r5.c.kernel r5.c.room r5.c.qp r5.c.qq r5.c.qw r5.l.barrier r5.l.qq r5.l.qw r5.l.end_ r5.f)) (.j (.l25 x0 x1 x2 x3 x4 x5 x6 x7 x8 x9 x10 x11 x12))) (.r ((some (⟨y1,y2,x12⟩:zaw)),0)) | .l25 x0 x1 x2 x3 x4 x5 x6 x7 x8 x9 x10 x11 x12=>.j (.l0 (i64.wrap (x0+1)) x1 x2 x3 x4 x5 x6 x7 x8 x9 x10 x11 x12)
def zEY(c:za)(qi:(List z7)):Tree L54 R54:=.c (decide ((qi.length:Int)>4096)) (.r (none,2)) (.b (zfv c) fun r1=>.c (!((r1.1:Int)==0)) (.r (none,221)) (.b (zwp c qi) fun r2=>.c (!r2) (.r (none,220)) (.b (zgU c) fun r4=>.j (.l0 0 c.qr c.major c.kernel c.room c.qp c.qq c.qw r4.1.barrier r4.1.qq r4.1.qw r4.1.end_ []))))
def zpq(c:za)(qi:(List z7)):L54->Option R54:=zal (zrH c qi)
theorem zm9(c:za)(qi:(List z7))(l:L54):zpq c qi l=(zrH c qi l).run (zpq c qi):=zE _ l
def zwi(c:za)(qi:(List z7)):Option R54:=(zEY c qi).run (zpq c qi)
theorem zN9(c:za)(qi:(List z7)):Oks 54 [.agg (Ty.enc .sConfig c),.sl .sFeed qi] [] (zwi c qi) to54:=zL GC6 (H:=H54) zJ Tryz.func54 rfl (by kernel_rfl) (st54 c qi) (fun J l=>by cases l <;> kernel_rfl) (fun J=>by kernel_rfl)
abbrev R65:=zaN × Int × zah
def to65(r:R65):Ans:=⟨.tup [.agg [(zu r.1.one),(zu r.1.two),(zu r.1.three)],(zg r.2.1)],[.cells 116 [.op .sCallsCalls r.2.2.calls,.ref 1 0,(zg r.2.2.p),(zg r.2.2.qu),(zu r.2.2.x.qz.e0),(zu r.2.2.x.qz.e1),(zu r.2.2.x.qz.e2),(zu r.2.2.x.qz.e3),(zu r.2.2.x.qz.e4),(zu r.2.2.x.qz.e5),(zu r.2.2.x.qz.e6),(zu r.2.2.x.qz.e7),(zu r.2.2.x.qz.e8),(zu r.2.2.x.qz.e9),(zu r.2.2.x.qz.e10),(zu r.2.2.x.qz.e11),(zu r.2.2.x.qz.e12),(zu r.2.2.x.qz.e13),(zu r.2.2.x.qz.e14),(zu r.2.2.x.qz.e15),(zu r.2.2.x.pC)],.cells 112 [.own 2],.arr 46 (.i .u32) ((r.2.2.m.getD default).qx)]⟩
def ztl(s:(Option zr))(p:Int)(qu:Int)(x:zB)(ws:List Int):Option R65:=Tree.run0 <|
 .g s.isSome <|
 .g (zO 1 16) <|
 .b (zng ((s.getD default).qg) p (i64.wrap x.qz.e1) ws) fun r1=>
 .r ((⟨(u32.wrap r1.1),r1.2.1,r1.2.2.1⟩:zaN),r1.2.2.2.1,(⟨s,(some r1.2.2.2.2),p,qu,x⟩:zah))
theorem zOk(s:(Option zr))(p:Int)(qu:Int)(x:zB)(ws:List Int):Oks 65 [.ref 0 0] [.cells 116 [.op .sCallsCalls s,.ref 1 0,(zg p),(zg qu),(zu x.qz.e0),(zu x.qz.e1),(zu x.qz.e2),(zu x.qz.e3),(zu x.qz.e4),(zu x.qz.e5),(zu x.qz.e6),(zu x.qz.e7),(zu x.qz.e8),(zu x.qz.e9),(zu x.qz.e10),(zu x.qz.e11),(zu x.qz.e12),(zu x.qz.e13),(zu x.qz.e14),(zu x.qz.e15),(zu x.pC)],.cells 112 [.own 2],.arr 46 (.i .u32) ws] (ztl s p qu x ws) to65:=zM GC6 (H:=H0) zJ Tryz.func65 rfl (by kernel_rfl) (fun J=>by kernel_rfl)
abbrev R45:=Int × za0
def to45(r:R45):Ans:=⟨.tup [(zg r.1),.agg [(zg r.2.first),(zg r.2.second)]],[]⟩
inductive L45 where | l0 (v0:R75) (x0:Int)
def H45:zab:=htt [] [(0,⟨fgt [3,8,9,10] 25 0,[]⟩)] []
def st45(c:za):L45->Nat × St | .l0 v0 x0=>(0,⟨mkE [(3,.ref 0 0),(8,.own 1),(9,(zg v0.length)),(10,(zg x0))] 25 0,[.cells 144 [(zg 0),(zg 0)],.arr 192 .f v0],GL,0,[],zN⟩)
def zu9(c:za):L45->Tree L45 R45 | .l0 v0 x0=>.c (decide (x0<v0.length)) (.g (zO x0 v0.length) <| .b (ask (zfV v0 x0.toNat)) fun r3=>.c (!(((r3.e:Int)==fine.e)&&((((r3.where_.first:Int)==fine.where_.first)&&(((r3.where_.second:Int)==fine.where_.second)&&true))&&true))) (.r (r3.e,r3.where_)) (.j (.l0 v0 (i64.wrap (x0+1))))) (.r (0,(⟨0,0⟩:za0)))
def zER(c:za):Tree L45 R45:=.b (zCa c) fun r2=>.j (.l0 r2 0)
def zsQ(c:za):L45->Option R45:=zal (zu9 c)
theorem zsR(c:za)(l:L45):zsQ c l=(zu9 c l).run (zsQ c):=zE _ l
def zdK(c:za):Option R45:=(zER c).run (zsQ c)
theorem zN0(c:za):Oks 45 [.agg (Ty.enc .sConfig c)] [] (zdK c) to45:=zL GC6 (H:=H45) zJ Tryz.func45 rfl (by kernel_rfl) (st45 c) (fun J l=>by cases l <;> kernel_rfl) (fun J=>by kernel_rfl)
abbrev R9:=Int × ze
def to9(r:R9):Ans:=⟨(zg r.1),[.cells 112 [.own 1],.arr 46 (.i .u32) r.2.qx]⟩
def ztq(s:(Option zr))(ws:List Int):Option R9:=Tree.run0 <|
 .c s.isNone
 (.r (3,(⟨ws⟩:ze)))
 (.b (zdJ (some (⟨ws⟩:ze))) fun r1=>
 .g s.isSome <|
 .c (!((r1:Int)==(s.getD default).qr))
 (.r (250,(⟨ws⟩:ze)))
 (.g s.isSome <|
 .b (zte ((s.getD default).qg) ws) fun r2=>
 .r (r2.1,r2.2)))
theorem oks9(s:(Option zr))(ws:List Int):Oks 9 [.op .sCallsCalls s,.ref 0 0] [.cells 112 [.own 1],.arr 46 (.i .u32) ws] (ztq s ws) to9:=zM GC6 (H:=H0) zJ Tryz.func9 rfl (by kernel_rfl) (fun J=>by kernel_rfl)
abbrev R30:=(List Int) × Int × Int
def to30(r:R30):Ans:=⟨.tup [.sl (.i .u32) r.1,(zg r.2.1),(zg r.2.2)],[]⟩
inductive L30 where | l0 (x0:Int) | l4 (v0:R51) (x0:Int) (x1:List Int) | l31 (v0:R51) (x0:Int) (x1:List Int)
def H30:zab:=htt [15] [(0,⟨fgt [1,2,9] 102 0,[]⟩),(4,⟨fgt [1,2,10,12,13] 102 0,[]⟩),(31,⟨fgt [1,2,10,12,13] 102 0,[]⟩)] [(.slot 0,.sl (.i .u32))]
def st30(c:za)(qo:(List (List Int))):L30->Nat × St | .l0 x0=>(0,⟨mkE [(1,.sl (.sl (.i .u32)) qo),(2,.ref 0 0),(9,(zg x0))] 102 0,[.cells 26 (Ty.enc .sConfig c)],GL,0,[],zN⟩) | .l4 v0 x0 x1=>(4,⟨mkE [(1,.sl (.sl (.i .u32)) qo),(2,.ref 0 0),(10,.ref 1 0),(12,.own 2),(13,(zg x0))] 102 0,[.cells 26 (Ty.enc .sConfig c),.cells 104 (Ty.enc .sLayout v0.1),.arr 46 (.i .u32) x1],GL,0,[],zN⟩) | .l31 v0 x0 x1=>(31,⟨mkE [(1,.sl (.sl (.i .u32)) qo),(2,.ref 0 0),(10,.ref 1 0),(12,.own 2),(13,(zg x0))] 102 0,[.cells 26 (Ty.enc .sConfig c),.cells 104 (Ty.enc .sLayout v0.1),.arr 46 (.i .u32) x1],GL,0,[],zN⟩)
def zl2(c:za)(qo:(List (List Int))):L30->Tree L30 R30 | .l0 x0 =>let y1:=i64.wrap (c.qr*16);.c (decide (x0<qo.length)) (.g (zO x0 c.qq.length) <| .g (zO x0 qo.length) <| .b (zth (zb c.qq x0.toNat) (zW qo x0.toNat)) fun r2=>.c (!r2) (.r ([],241,x0)) (.j (.l0 (i64.wrap (x0+1))))) (.b (zgU c) fun r4=>.g (decide ((y1:Int)=y1)&&decide (0<=y1)&&leB (y1.toNat*4) 140737488355328) <| .j (.l4 r4 0 (List.replicate y1.toNat (0:Int)))) | .l4 v0 x0 x1 =>let y2:=zb c.qq x0.toNat;let y3:=zn v0.1.qq x0.toNat;let y1:=i64.wrap (y3.save+16);let y4:=zO x0 v0.1.qq.length;let y5:=u32.wrap (y2.entry);.c (decide (x0<c.qq.length)) (.g (zO x0 c.qq.length) <| .g y4 <| .b (zpw y2 y3 x1) fun r5=>.g y4 <| .g (zO y1 r5.length) <| .c (decide (x0<qo.length)) (.g (zO x0 qo.length) <| .b (zpx y2 (zW qo x0.toNat) (List.set r5 (y1.toNat) y5)) fun r6=>.j (.l31 v0 x0 r6)) (.j (.l31 v0 x0 (List.set r5 (y1.toNat) y5)))) (.r (x1,0,(-1))) | .l31 v0 x0 x1=>.j (.l4 v0 (i64.wrap (x0+1)) x1)
def zEO(c:za)(qo:(List (List Int))):Tree L30 R30:=.b (zfv c) fun r1=>.c (!((r1.1:Int)==0)) (.r ([],240,(-1))) (.c (decide ((qo.length:Int)>c.qq.length)) (.r ([],241,c.qq.length)) (.j (.l0 0)))
def zjd(c:za)(qo:(List (List Int))):L30->Option R30:=zal (zl2 c qo)
theorem zgJ(c:za)(qo:(List (List Int)))(l:L30):zjd c qo l=(zl2 c qo l).run (zjd c qo):=zE _ l
def zf3(c:za)(qo:(List (List Int))):Option R30:=(zEO c qo).run (zjd c qo)
theorem zNN(c:za)(qo:(List (List Int))):Oks 30 [.agg (Ty.enc .sConfig c),.sl (.sl (.i .u32)) qo] [] (zf3 c qo) to30:=zL GC6 (H:=H30) zJ Tryz.func30 rfl (by kernel_rfl) (st30 c qo) (fun J l=>by cases l <;> kernel_rfl) (fun J=>by kernel_rfl)
abbrev R64:=zaN × Int × zah
def to64(r:R64):Ans:=⟨.tup [.agg [(zu r.1.one),(zu r.1.two),(zu r.1.three)],(zg r.2.1)],[.cells 116 [.op .sCallsCalls r.2.2.calls,.ref 1 0,(zg r.2.2.p),(zg r.2.2.qu),(zu r.2.2.x.qz.e0),(zu r.2.2.x.qz.e1),(zu r.2.2.x.qz.e2),(zu r.2.2.x.qz.e3),(zu r.2.2.x.qz.e4),(zu r.2.2.x.qz.e5),(zu r.2.2.x.qz.e6),(zu r.2.2.x.qz.e7),(zu r.2.2.x.qz.e8),(zu r.2.2.x.qz.e9),(zu r.2.2.x.qz.e10),(zu r.2.2.x.qz.e11),(zu r.2.2.x.qz.e12),(zu r.2.2.x.qz.e13),(zu r.2.2.x.qz.e14),(zu r.2.2.x.qz.e15),(zu r.2.2.x.pC)],.cells 112 [.own 2],.arr 46 (.i .u32) ((r.2.2.m.getD default).qx)]⟩
inductive L64 where | l0 (v0:zC3) (v1:R99) (x0:Int) (x1:List Int)
def H64:zab:=htt [] [(0,⟨fgt [0,2,6,7,89,90,91] 112 0,[]⟩)] []
def st64(s:(Option zr))(p:Int)(qu:Int)(x:zB)(ws:List Int):L64->Nat × St | .l0 v0 v1 x0 x1=>(0,⟨mkE [(0,.ref 0 0),(2,.ref 3 0),(6,.sl (.i .u32) v0.2.1),(7,(zu v0.2.2.1)),(89,.sl (.i .i64) v1.1),(90,(zg v1.1.length)),(91,(zg x0))] 112 0,[.cells 116 [.op .sCallsCalls v1.2.2.calls,.ref 1 0,(zg v1.2.2.p),(zg v1.2.2.qu),(zu v1.2.2.x.qz.e0),(zu v1.2.2.x.qz.e1),(zu v1.2.2.x.qz.e2),(zu v1.2.2.x.qz.e3),(zu v1.2.2.x.qz.e4),(zu v1.2.2.x.qz.e5),(zu v1.2.2.x.qz.e6),(zu v1.2.2.x.qz.e7),(zu v1.2.2.x.qz.e8),(zu v1.2.2.x.qz.e9),(zu v1.2.2.x.qz.e10),(zu v1.2.2.x.qz.e11),(zu v1.2.2.x.qz.e12),(zu v1.2.2.x.qz.e13),(zu v1.2.2.x.qz.e14),(zu v1.2.2.x.qz.e15),(zu v1.2.2.x.pC)],.cells 112 [.own 2],.arr 46 (.i .u32) x1,.cells 118 [(zu 0),(zu 0),(zu 0)]],GL,3,[],zN⟩)
def zvf(s:(Option zr))(p:Int)(qu:Int)(x:zB)(ws:List Int):L64->Tree L64 R64 | .l0 v0 v1 x0 x1=>.c (decide (x0<v1.1.length)) (.g (zO x0 v1.1.length) <| .g (zO x0 v0.2.1.length) <| .b (zdP (zt v1.1 x0.toNat) (zt v0.2.1 x0.toNat) x1) fun r4=>.j (.l0 v0 v1 (i64.wrap (x0+1)) r4.2.qx)) (.r ((⟨0,(u32.wrap v0.2.1.length),v0.2.2.1⟩:zaN),0,(⟨v1.2.2.calls,(some (⟨x1⟩:ze)),v1.2.2.p,v1.2.2.qu,v1.2.2.x⟩:zah)))
def zE5(s:(Option zr))(p:Int)(qu:Int)(x:zB)(ws:List Int):Tree L64 R64:=.g (zO 1 16) <| .g s.isSome <| .b (zne ((s.getD default).qg) p (i64.wrap x.qz.e1) ws) fun r1=>.c (!((r1.2.2.2.1:Int)==0)) (.r ((zi8 r1.1),r1.2.2.2.1,(⟨s,(some r1.2.2.2.2),p,qu,x⟩:zah))) (.c (!((r1.1:Int)==0)) (.r ((zi8 r1.1),r1.2.2.2.1,(⟨s,(some r1.2.2.2.2),p,qu,x⟩:zah))) (.g (zO 2 16) <| .b (zpC x.qz.e2 r1.2.1.length 2 s p qu x r1.2.2.2.2.qx) fun r2=>.c (!r2.2.1) (.r ((zi8 4),0,(⟨r2.2.2.calls,(some (r2.2.2.m.getD default)),r2.2.2.p,r2.2.2.qu,r2.2.2.x⟩:zah))) (.g r2.2.2.calls.isSome <| .b (znf ((r2.2.2.calls.getD default).qg) r2.2.2.p (i64.wrap x.qz.e1) ((r2.2.2.m.getD default).qx)) fun r3=>.c (!((r3.1:Int)==0)) (.r ((⟨0,0,0⟩:zaN),r3.1,(⟨r2.2.2.calls,(some r3.2),r2.2.2.p,r2.2.2.qu,r2.2.2.x⟩:zah))) (.j (.l0 r1 r2 0 r3.2.qx)))))
def zs2(s:(Option zr))(p:Int)(qu:Int)(x:zB)(ws:List Int):L64->Option R64:=zal (zvf s p qu x ws)
theorem zs3(s:(Option zr))(p:Int)(qu:Int)(x:zB)(ws:List Int)(l:L64):zs2 s p qu x ws l=(zvf s p qu x ws l).run (zs2 s p qu x ws):=zE _ l
def ztk(s:(Option zr))(p:Int)(qu:Int)(x:zB)(ws:List Int):Option R64:=(zE5 s p qu x ws).run (zs2 s p qu x ws)
theorem zOj(s:(Option zr))(p:Int)(qu:Int)(x:zB)(ws:List Int):Oks 64 [.ref 0 0] [.cells 116 [.op .sCallsCalls s,.ref 1 0,(zg p),(zg qu),(zu x.qz.e0),(zu x.qz.e1),(zu x.qz.e2),(zu x.qz.e3),(zu x.qz.e4),(zu x.qz.e5),(zu x.qz.e6),(zu x.qz.e7),(zu x.qz.e8),(zu x.qz.e9),(zu x.qz.e10),(zu x.qz.e11),(zu x.qz.e12),(zu x.qz.e13),(zu x.qz.e14),(zu x.qz.e15),(zu x.pC)],.cells 112 [.own 2],.arr 46 (.i .u32) ws] (ztk s p qu x ws) to64:=zL GC6 (H:=H64) zJ Tryz.func64 rfl (by kernel_rfl) (st64 s p qu x ws) (fun J l=>by cases l <;> kernel_rfl) (fun J=>by kernel_rfl)
abbrev R53:=(Option zaU) × Int
def to53(r:R53):Ans:=⟨.tup [.op .sBulkheadref23Wards r.1,(zg r.2)],[]⟩
def H53:zab:=⟨fun _=>false,fun _=>⟨[],[]⟩,[(.slot 0,.op .sBulkheadref23Wards)],G0,zN⟩
def zwh(c:za):Option R53:=Tree.run0 <|
 .b (zfv c) fun r1=>
 .c (!((r1.1:Int)==0))
 (.r (none,232))
 (.b (zgU c) fun r3=>
 .c (!((r3.2:Int)==0))
 (.r (none,232))
 (.r ((some (⟨c,r3.1⟩:zaU)),0)))
theorem zN8(c:za):Oks 53 [.agg (Ty.enc .sConfig c)] [] (zwh c) to53:=zM GC6 (H:=H53) zJ Tryz.func53 rfl (by kernel_rfl) (fun J=>by kernel_rfl)
abbrev R52:=(Option zaT) × Int
def to52(r:R52):Ans:=⟨.tup [.op .sBulkheadref21Ducts r.1,(zg r.2)],[]⟩
def H52:zab:=⟨fun _=>false,fun _=>⟨[],[]⟩,[(.slot 0,.op .sBulkheadref21Ducts)],G0,zN⟩
def zwg(c:za):Option R52:=Tree.run0 <|
 .b (zfv c) fun r1=>
 .c (!((r1.1:Int)==0))
 (.r (none,210))
 (.b (zgU c) fun r3=>
 .r ((some (⟨c,r3.1⟩:zaT)),0))
theorem zN7(c:za):Oks 52 [.agg (Ty.enc .sConfig c)] [] (zwg c) to52:=zM GC6 (H:=H52) zJ Tryz.func52 rfl (by kernel_rfl) (fun J=>by kernel_rfl)
def g9(args:List AV)(hp:List Blk):Option Rsp:=
 match args,hp with
 | [a0,.ref 0 0],[.cells 112 [.own 1],.arr 46 (.i .u32) y0]=>(rdL (.p .sCallsCalls) a0).bind fun b0=>some ⟨R9,(ztq b0 y0),to9,default⟩
 | _,_=>none
def k9:Fk 9:=⟨g9,fun args hp y h x hx=>by
 unfold g9 at h
 split at h
 . simp only[Option.bind_eq_some_iff]at h
   obtain ⟨b0,h0,h⟩:=h
   cases h;exact(oks9 b0 _).ats (.cons (z9 h0) (.cons (fun _ _ _ _ h=>h) .nil)) hx
 . cases h⟩
def k30:Fk 30:=aF (aS .sConfig fun a0=>aL (.sl (.sl (.i .u32))) fun a1=>aE (zNN a0 a1))
def k45:Fk 45:=aF (aS .sConfig fun a0=>aE (zN0 a0))
def k52:Fk 52:=aF (aS .sConfig fun a0=>aE (zN7 a0))
def k53:Fk 53:=aF (aS .sConfig fun a0=>aE (zN8 a0))
def k54:Fk 54:=aF (aS .sConfig fun a0=>aL (.sl .sFeed) fun a1=>aE (zN9 a0 a1))
def g63(args:List AV)(hp:List Blk):Option Rsp:=
 match args,hp with
 | [.ref 0 0],[.cells 116 [.op .sCallsCalls y0,.ref 1 0,.v (.int .i64 y1),.v (.int .i64 y2),.v (.int .u32 y3),.v (.int .u32 y4),.v (.int .u32 y5),.v (.int .u32 y6),.v (.int .u32 y7),.v (.int .u32 y8),.v (.int .u32 y9),.v (.int .u32 y10),.v (.int .u32 y11),.v (.int .u32 y12),.v (.int .u32 y13),.v (.int .u32 y14),.v (.int .u32 y15),.v (.int .u32 y16),.v (.int .u32 y17),.v (.int .u32 y18),.v (.int .u32 y19)],.cells 112 [.own 2],.arr 46 (.i .u32) y20]=>some ⟨R63,(ztj y0 y1 y2 (⟨(⟨y3,y4,y5,y6,y7,y8,y9,y10,y11,y12,y13,y14,y15,y16,y17,y18⟩:z6),y19⟩:zB) y20),to63,default⟩
 | _,_=>none
def k63:Fk 63:=⟨g63,fun args hp y h x hx=>by
 unfold g63 at h
 split at h
 . cases h;exact(zOi _ _ _ _ _).ats (.cons (fun _ _ _ _ h=>h) .nil) hx
 . cases h⟩
def g64(args:List AV)(hp:List Blk):Option Rsp:=
 match args,hp with
 | [.ref 0 0],[.cells 116 [.op .sCallsCalls y0,.ref 1 0,.v (.int .i64 y1),.v (.int .i64 y2),.v (.int .u32 y3),.v (.int .u32 y4),.v (.int .u32 y5),.v (.int .u32 y6),.v (.int .u32 y7),.v (.int .u32 y8),.v (.int .u32 y9),.v (.int .u32 y10),.v (.int .u32 y11),.v (.int .u32 y12),.v (.int .u32 y13),.v (.int .u32 y14),.v (.int .u32 y15),.v (.int .u32 y16),.v (.int .u32 y17),.v (.int .u32 y18),.v (.int .u32 y19)],.cells 112 [.own 2],.arr 46 (.i .u32) y20]=>some ⟨R64,(ztk y0 y1 y2 (⟨(⟨y3,y4,y5,y6,y7,y8,y9,y10,y11,y12,y13,y14,y15,y16,y17,y18⟩:z6),y19⟩:zB) y20),to64,default⟩
 | _,_=>none
def k64:Fk 64:=⟨g64,fun args hp y h x hx=>by
 unfold g64 at h
 split at h
 . cases h;exact(zOj _ _ _ _ _).ats (.cons (fun _ _ _ _ h=>h) .nil) hx
 . cases h⟩
def g65(args:List AV)(hp:List Blk):Option Rsp:=
 match args,hp with
 | [.ref 0 0],[.cells 116 [.op .sCallsCalls y0,.ref 1 0,.v (.int .i64 y1),.v (.int .i64 y2),.v (.int .u32 y3),.v (.int .u32 y4),.v (.int .u32 y5),.v (.int .u32 y6),.v (.int .u32 y7),.v (.int .u32 y8),.v (.int .u32 y9),.v (.int .u32 y10),.v (.int .u32 y11),.v (.int .u32 y12),.v (.int .u32 y13),.v (.int .u32 y14),.v (.int .u32 y15),.v (.int .u32 y16),.v (.int .u32 y17),.v (.int .u32 y18),.v (.int .u32 y19)],.cells 112 [.own 2],.arr 46 (.i .u32) y20]=>some ⟨R65,(ztl y0 y1 y2 (⟨(⟨y3,y4,y5,y6,y7,y8,y9,y10,y11,y12,y13,y14,y15,y16,y17,y18⟩:z6),y19⟩:zB) y20),to65,default⟩
 | _,_=>none
def k65:Fk 65:=⟨g65,fun args hp y h x hx=>by
 unfold g65 at h
 split at h
 . cases h;exact(zOk _ _ _ _ _).ats (.cons (fun _ _ _ _ h=>h) .nil) hx
 . cases h⟩
def GC7:GK:=zhZ [⟨9,k9⟩,⟨30,k30⟩,⟨45,k45⟩,⟨52,k52⟩,⟨53,k53⟩,⟨54,k54⟩,⟨63,k63⟩,⟨64,k64⟩,⟨65,k65⟩] GC6
abbrev R46:=zR × Int
def to46(r:R46):Ans:=⟨.tup [.ref 0 0,(zg r.2)],[.cells 197 [(zg r.1.qr),.own 1,.own 2,.om 3],.arr 3 (.i .i64) r.1.outs,.arr 3 (.i .i64) r.1.at_,.map .sDeviceWhen (.sl (.i .u32)) [(0,46)] r.1.qi]⟩
inductive L46 where | l0 (v0:R47) (x0:Int) (x1:List Int) (x2:List Int) | l4 (x0:Int) (x1:List Int) (x2:List Int) (x3:(List (zQ × (List Int)))) | l8 (x0:Int) (x1:List Int) (x2:List Int) (x3:(List (zQ × (List Int)))) | l61 (x0:Int) (x1:List Int) (x2:List Int) (x3:(List (zQ × (List Int))))
def H46:zab:=⟨fun n=>[30].any (Nat.beq n),zfi [(0,⟨fgt [1,2,8,10,43,44,45] 165 0,[(.box 10 1,.own 3 (.i .i64)),(.box 10 2,.own 3 (.i .i64))]⟩),(4,⟨fgt [1,2,10,78,79,80] 165 0,[]⟩),(8,⟨fgt [10,144,145,146] 165 0,[]⟩),(61,⟨fgt [10,144,145,146] 165 0,[]⟩)],[(.slot 0,.fnc)],G0,(fun e=>match e with | 72=>[(6,138),(7,74)] | 136=>[(0,135)] | 140=>[(4,3)] | 189=>[(4,209)] | 195=>[(0,46)] | _=>[])⟩
def st46(c:za)(qi:(List z7)):L46->Nat × St | .l0 v0 x0 x1 x2=>(0,⟨mkE [(1,.sl .sFeed qi),(2,.ref 0 0),(8,.ref 1 0),(10,.ref 4 0),(43,.sl .sPartition c.qq),(44,(zg c.qq.length)),(45,(zg x0))] 165 0,[.cells 26 (Ty.enc .sConfig c),.cells 104 [(zg v0.1.barrier),.own 2,.own 3,(zg v0.1.end_)],.row 140 .sPartitionPlace [(4,3)] [] v0.1.qq,.row 189 .sChannelPlace [(4,209)] [] v0.1.qw,.cells 197 [(zg c.qr),.own 5,.own 6,.om 7],.arr 3 (.i .i64) x1,.arr 3 (.i .i64) x2,.map .sDeviceWhen (.sl (.i .u32)) [(0,46)] []],GL,0,[],(fun e=>match e with | 72=>[(6,138),(7,74)] | 136=>[(0,135)] | 140=>[(4,3)] | 189=>[(4,209)] | 195=>[(0,46)] | _=>[])⟩) | .l4 x0 x1 x2 x3=>(4,⟨mkE [(1,.sl .sFeed qi),(2,.ref 0 0),(10,.ref 1 0),(78,.sl .sFeed qi),(79,(zg qi.length)),(80,(zg x0))] 165 0,[.cells 26 (Ty.enc .sConfig c),.cells 197 [(zg c.qr),.own 2,.own 3,.om 4],.arr 3 (.i .i64) x1,.arr 3 (.i .i64) x2,.map .sDeviceWhen (.sl (.i .u32)) [(0,46)] x3],GL,0,[],(fun e=>match e with | 72=>[(6,138),(7,74)] | 136=>[(0,135)] | 140=>[(4,3)] | 189=>[(4,209)] | 195=>[(0,46)] | _=>[])⟩) | .l8 x0 x1 x2 x3=>(8,⟨mkE [(10,.ref 0 0),(144,.sl .sFeed qi),(145,(zg qi.length)),(146,(zg x0))] 165 0,[.cells 197 [(zg c.qr),.own 1,.own 2,.om 3],.arr 3 (.i .i64) x1,.arr 3 (.i .i64) x2,.map .sDeviceWhen (.sl (.i .u32)) [(0,46)] x3],GL,0,[],(fun e=>match e with | 72=>[(6,138),(7,74)] | 136=>[(0,135)] | 140=>[(4,3)] | 189=>[(4,209)] | 195=>[(0,46)] | _=>[])⟩) | .l61 x0 x1 x2 x3=>(61,⟨mkE [(10,.ref 0 0),(144,.sl .sFeed qi),(145,(zg qi.length)),(146,(zg x0))] 165 0,[.cells 197 [(zg c.qr),.own 1,.own 2,.om 3],.arr 3 (.i .i64) x1,.arr 3 (.i .i64) x2,.map .sDeviceWhen (.sl (.i .u32)) [(0,46)] x3],GL,0,[],(fun e=>match e with | 72=>[(6,138),(7,74)] | 136=>[(0,135)] | 140=>[(4,3)] | 189=>[(4,209)] | 195=>[(0,46)] | _=>[])⟩)
def ziC(c:za)(qi:(List z7)):L46->Tree L46 R46 | .l0 v0 x0 x1 x2 =>let y1:=i64.wrap ((zn v0.1.qq x0.toNat).state+4);let y2:=zb c.qq x0.toNat;.c (decide (x0<c.qq.length)) (.g (zO x0 c.qq.length) <| .g (leB (((x1:List Int).length+([y2.qW]:List Int).length)*8) 140737488355328) <| .g (zO x0 v0.1.qq.length) <| .g (leB (((x2:List Int).length+([y1]:List Int).length)*8) 140737488355328) <| .j (.l0 v0 (i64.wrap (x0+1)) ((x1:List Int)++[y2.qW]) ((x2:List Int)++[y1]))) (.j (.l4 0 x1 x2 [])) | .l4 x0 x1 x2 x3 =>let y1:=zA qi x0.toNat;let y2:=(y1.qk:Int);let y3:=(y1.qu:Int);.c (decide (x0<qi.length)) (.g (zO x0 qi.length) <| .b (zes (fun x:zQ=>some ((y2==x.qk)&&((y3==x.qu)&&true))) x3) fun r3=>.c r3.isSome (.n) (.c (decide (y2<0)) (.n) (.c (decide (y2>=c.qq.length)) (.n) (.c (decide (y3<0)) (.n) (.c (decide (y3>=1073741824)) (.n) (.g (zO (y1.qk) c.qq.length) <| .c (decide (((y1.qx).length:Int)>(zb c.qq ((y1.qk).toNat)).qE)) (.n) (.b (zgS (y1.qx)) fun r4=>.b (zn5 (fun x:zQ=>some ((y2==x.qk)&&((y3==x.qu)&&true))) false (⟨y1.qk,y1.qu⟩:zQ) r4 x3) fun r5=>.j (.l4 (i64.wrap (x0+1)) x1 x2 r5)))))))) (.j (.l8 0 x1 x2 x3)) | .l8 x0 x1 x2 x3 =>let y1:=zA qi x0.toNat;.c (decide (x0<qi.length)) (.g (zO x0 qi.length) <| .c (((y1.qx).length:Int)==0) (.b (zqw (fun x:zQ=>some (((y1.qk:Int)==x.qk)&&(((y1.qu:Int)==x.qu)&&true))) x3) fun r6=>.j (.l61 x0 x1 x2 r6)) (.j (.l61 x0 x1 x2 x3))) (.r ((⟨c.qr,x1,x2,x3⟩:zR),0)) | .l61 x0 x1 x2 x3=>.j (.l8 (i64.wrap (x0+1)) x1 x2 x3)
def zES(c:za)(qi:(List z7)):Tree L46 R46:=.c (decide ((qi.length:Int)>4096)) (.n) (.b (zdK c) fun r1=>.c (!((r1.1:Int)==0)) (.n) (.b (zc4 c) fun r2=>.c (!((r2.2:Int)==0)) (.n) (.j (.l0 r2 0 [] []))))
def zdV(c:za)(qi:(List z7)):L46->Option R46:=zal (ziC c qi)
theorem zez(c:za)(qi:(List z7))(l:L46):zdV c qi l=(ziC c qi l).run (zdV c qi):=zE _ l
def znE(c:za)(qi:(List z7)):Option R46:=(zES c qi).run (zdV c qi)
theorem zN1(c:za)(qi:(List z7)):Oks 46 [.agg (Ty.enc .sConfig c),.sl .sFeed qi] [] (znE c qi) to46:=zL GC7 (H:=H46) zJ Tryz.func46 rfl (by kernel_rfl) (st46 c qi) (fun J l=>by cases l <;> kernel_rfl) (fun J=>by kernel_rfl)
abbrev ziu:=(Option zR) × Int
def zCy(r:ziu):Ans:=⟨.tup [.v (.pointer none),(zg r.2)],[]⟩
inductive zg1 where | l0 (v0:R47) (x0:Int) (x1:List Int) (x2:List Int) | l4 (x0:Int) (x1:List Int) (x2:List Int) (x3:(List (zQ × (List Int)))) | l8 (x0:Int) (x1:List Int) (x2:List Int) (x3:(List (zQ × (List Int)))) | l61 (x0:Int) (x1:List Int) (x2:List Int) (x3:(List (zQ × (List Int))))
def zCW:zab:=⟨fun n=>[30].any (Nat.beq n),zfi [(0,⟨fgt [1,2,8,10,43,44,45] 165 0,[(.box 10 1,.own 3 (.i .i64)),(.box 10 2,.own 3 (.i .i64))]⟩),(4,⟨fgt [1,2,10,78,79,80] 165 0,[]⟩),(8,⟨fgt [10,144,145,146] 165 0,[]⟩),(61,⟨fgt [10,144,145,146] 165 0,[]⟩)],[(.slot 0,.nilp)],G0,(fun e=>match e with | 72=>[(6,138),(7,74)] | 136=>[(0,135)] | 140=>[(4,3)] | 189=>[(4,209)] | 195=>[(0,46)] | _=>[])⟩
def zCh(c:za)(qi:(List z7)):zg1->Nat × St | .l0 v0 x0 x1 x2=>(0,⟨mkE [(1,.sl .sFeed qi),(2,.ref 0 0),(8,.ref 1 0),(10,.ref 4 0),(43,.sl .sPartition c.qq),(44,(zg c.qq.length)),(45,(zg x0))] 165 0,[.cells 26 (Ty.enc .sConfig c),.cells 104 [(zg v0.1.barrier),.own 2,.own 3,(zg v0.1.end_)],.row 140 .sPartitionPlace [(4,3)] [] v0.1.qq,.row 189 .sChannelPlace [(4,209)] [] v0.1.qw,.cells 197 [(zg c.qr),.own 5,.own 6,.om 7],.arr 3 (.i .i64) x1,.arr 3 (.i .i64) x2,.map .sDeviceWhen (.sl (.i .u32)) [(0,46)] []],GL,0,[],(fun e=>match e with | 72=>[(6,138),(7,74)] | 136=>[(0,135)] | 140=>[(4,3)] | 189=>[(4,209)] | 195=>[(0,46)] | _=>[])⟩) | .l4 x0 x1 x2 x3=>(4,⟨mkE [(1,.sl .sFeed qi),(2,.ref 0 0),(10,.ref 1 0),(78,.sl .sFeed qi),(79,(zg qi.length)),(80,(zg x0))] 165 0,[.cells 26 (Ty.enc .sConfig c),.cells 197 [(zg c.qr),.own 2,.own 3,.om 4],.arr 3 (.i .i64) x1,.arr 3 (.i .i64) x2,.map .sDeviceWhen (.sl (.i .u32)) [(0,46)] x3],GL,0,[],(fun e=>match e with | 72=>[(6,138),(7,74)] | 136=>[(0,135)] | 140=>[(4,3)] | 189=>[(4,209)] | 195=>[(0,46)] | _=>[])⟩) | .l8 x0 x1 x2 x3=>(8,⟨mkE [(10,.ref 0 0),(144,.sl .sFeed qi),(145,(zg qi.length)),(146,(zg x0))] 165 0,[.cells 197 [(zg c.qr),.own 1,.own 2,.om 3],.arr 3 (.i .i64) x1,.arr 3 (.i .i64) x2,.map .sDeviceWhen (.sl (.i .u32)) [(0,46)] x3],GL,0,[],(fun e=>match e with | 72=>[(6,138),(7,74)] | 136=>[(0,135)] | 140=>[(4,3)] | 189=>[(4,209)] | 195=>[(0,46)] | _=>[])⟩) | .l61 x0 x1 x2 x3=>(61,⟨mkE [(10,.ref 0 0),(144,.sl .sFeed qi),(145,(zg qi.length)),(146,(zg x0))] 165 0,[.cells 197 [(zg c.qr),.own 1,.own 2,.om 3],.arr 3 (.i .i64) x1,.arr 3 (.i .i64) x2,.map .sDeviceWhen (.sl (.i .u32)) [(0,46)] x3],GL,0,[],(fun e=>match e with | 72=>[(6,138),(7,74)] | 136=>[(0,135)] | 140=>[(4,3)] | 189=>[(4,209)] | 195=>[(0,46)] | _=>[])⟩)
def ze8(c:za)(qi:(List z7)):zg1->Tree zg1 ziu | .l0 v0 x0 x1 x2 =>let y1:=i64.wrap ((zn v0.1.qq x0.toNat).state+4);let y2:=zb c.qq x0.toNat;.c (decide (x0<c.qq.length)) (.g (zO x0 c.qq.length) <| .g (leB (((x1:List Int).length+([y2.qW]:List Int).length)*8) 140737488355328) <| .g (zO x0 v0.1.qq.length) <| .g (leB (((x2:List Int).length+([y1]:List Int).length)*8) 140737488355328) <| .j (.l0 v0 (i64.wrap (x0+1)) ((x1:List Int)++[y2.qW]) ((x2:List Int)++[y1]))) (.j (.l4 0 x1 x2 [])) | .l4 x0 x1 x2 x3 =>let y1:=zA qi x0.toNat;let y2:=(y1.qk:Int);let y3:=(y1.qu:Int);.c (decide (x0<qi.length)) (.g (zO x0 qi.length) <| .b (zes (fun x:zQ=>some ((y2==x.qk)&&((y3==x.qu)&&true))) x3) fun r3=>.c r3.isSome (.r (none,220)) (.c (decide (y2<0)) (.r (none,220)) (.c (decide (y2>=c.qq.length)) (.r (none,220)) (.c (decide (y3<0)) (.r (none,220)) (.c (decide (y3>=1073741824)) (.r (none,220)) (.g (zO (y1.qk) c.qq.length) <| .c (decide (((y1.qx).length:Int)>(zb c.qq ((y1.qk).toNat)).qE)) (.r (none,220)) (.b (zgS (y1.qx)) fun r4=>.b (zn5 (fun x:zQ=>some ((y2==x.qk)&&((y3==x.qu)&&true))) false (⟨y1.qk,y1.qu⟩:zQ) r4 x3) fun r5=>.j (.l4 (i64.wrap (x0+1)) x1 x2 r5)))))))) (.j (.l8 0 x1 x2 x3)) | .l8 x0 x1 x2 x3 =>let y1:=zA qi x0.toNat;.g (decide (x0<qi.length)) <| .g (zO x0 qi.length) <| .c (((y1.qx).length:Int)==0) (.b (zqw (fun x:zQ=>some (((y1.qk:Int)==x.qk)&&(((y1.qu:Int)==x.qu)&&true))) x3) fun r6=>.j (.l61 x0 x1 x2 r6)) (.j (.l61 x0 x1 x2 x3)) | .l61 x0 x1 x2 x3=>.j (.l8 (i64.wrap (x0+1)) x1 x2 x3)
def zow(c:za)(qi:(List z7)):Tree zg1 ziu:=.c (decide ((qi.length:Int)>4096)) (.r (none,2)) (.b (zdK c) fun r1=>.c (!((r1.1:Int)==0)) (.r (none,221)) (.b (zc4 c) fun r2=>.c (!((r2.2:Int)==0)) (.r (none,221)) (.j (.l0 r2 0 [] []))))
def zbY(c:za)(qi:(List z7)):zg1->Option ziu:=zal (ze8 c qi)
theorem zfP(c:za)(qi:(List z7))(l:zg1):zbY c qi l=(ze8 c qi l).run (zbY c qi):=zE _ l
def zeh(c:za)(qi:(List z7)):Option ziu:=(zow c qi).run (zbY c qi)
theorem zxX(c:za)(qi:(List z7)):Oks 46 [.agg (Ty.enc .sConfig c),.sl .sFeed qi] [] (zeh c qi) zCy:=zL GC7 (H:=zCW) zJ Tryz.func46 rfl (by kernel_rfl) (zCh c qi) (fun J l=>by cases l <;> kernel_rfl) (fun J=>by kernel_rfl)
abbrev R49:=zae × Int
def to49(r:R49):Ans:=⟨.tup [.ref 0 0,(zg r.2)],[.cells 213 [(zg r.1.qr),.own 1],.row 219 .sHealthWard [(4,3)] [] r.1.qh]⟩
inductive L49 where | l0 (v0:R47) (x0:Int) (x1:Nat) (x2:List zX)
def H49:zab:=⟨fun n=>[].any (Nat.beq n),zfi [(0,⟨fgt [6,8,30,31,32] 65 0,[(.box 6 1,.low 4),(.box 8 1,.own 219 .sHealthWard)]⟩)],[(.slot 0,.fnc)],G0,(fun e=>match e with | 72=>[(6,138),(7,74)] | 136=>[(0,135)] | 140=>[(4,3)] | 189=>[(4,209)] | 219=>[(4,3)] | _=>[])⟩
def st49(c:za):L49->Nat × St | .l0 v0 x0 x1 x2=>(0,⟨mkE [(6,.ref 0 0),(8,.ref 3 0),(30,.sl .sPartition c.qq),(31,(zg c.qq.length)),(32,(zg x0))] 65 0,[.cells 104 [(zg v0.1.barrier),.own 1,.own 2,(zg v0.1.end_)],.row 140 .sPartitionPlace [(4,3)] [(x1,4,none)] v0.1.qq,.row 189 .sChannelPlace [(4,209)] [] v0.1.qw,.cells 213 [(zg c.qr),.own 4],.row 219 .sHealthWard [(4,3)] [] x2],GL,0,[],(fun e=>match e with | 72=>[(6,138),(7,74)] | 136=>[(0,135)] | 140=>[(4,3)] | 189=>[(4,209)] | 219=>[(4,3)] | _=>[])⟩)
def zvb(c:za):L49->Tree L49 R49 | .l0 v0 x0 x1 x2 =>let y2:=zb c.qq x0.toNat;let y1:=(⟨(zn v0.1.qq x0.toNat),(u32.wrap (y2.entry)),(u32.wrap (y2.qR)),(u32.wrap (y2.qW)),(⟨(),()⟩:zay)⟩:zX);let y3:=(x2:List zX);.c (decide (x0<c.qq.length)) (.g (zO x0 c.qq.length) <| .g (zO x0 v0.1.qq.length) <| .g ((Nat.ble x1 x0.toNat&&true)&&true) <| .g (leB ((y3.length+([y1]:List zX).length)*88) 140737488355328) <| .j (.l0 v0 (i64.wrap (x0+1)) (Nat.max (x0.toNat+1) (Nat.max x1 0)) (y3++[y1]))) (.r ((⟨c.qr,x2⟩:zae),0))
def zEV(c:za):Tree L49 R49:=.b (zdK c) fun r1=>.c (!((r1.1:Int)==0)) (.n) (.b (zc4 c) fun r2=>.c (!((r2.2:Int)==0)) (.n) (.j (.l0 r2 0 0 [])))
def zsU(c:za):L49->Option R49:=zal (zvb c)
theorem zsV(c:za)(l:L49):zsU c l=(zvb c l).run (zsU c):=zE _ l
def zgT(c:za):Option R49:=(zEV c).run (zsU c)
theorem zN4(c:za):Oks 49 [.agg (Ty.enc .sConfig c)] [] (zgT c) to49:=zL GC7 (H:=H49) zJ Tryz.func49 rfl (by kernel_rfl) (st49 c) (fun J l=>by cases l <;> kernel_rfl) (fun J=>by kernel_rfl)
abbrev ziw:=(Option zae) × Int
def zCA(r:ziw):Ans:=⟨.tup [.v (.pointer none),(zg r.2)],[]⟩
inductive zis where | l0 (v0:R47) (x0:Int) (x1:Nat) (x2:List zX)
def zCY:zab:=⟨fun n=>[].any (Nat.beq n),zfi [(0,⟨fgt [6,8,30,31,32] 65 0,[(.box 6 1,.low 4),(.box 8 1,.own 219 .sHealthWard)]⟩)],[(.slot 0,.nilp)],G0,(fun e=>match e with | 72=>[(6,138),(7,74)] | 136=>[(0,135)] | 140=>[(4,3)] | 189=>[(4,209)] | 219=>[(4,3)] | _=>[])⟩
def zCj(c:za):zis->Nat × St | .l0 v0 x0 x1 x2=>(0,⟨mkE [(6,.ref 0 0),(8,.ref 3 0),(30,.sl .sPartition c.qq),(31,(zg c.qq.length)),(32,(zg x0))] 65 0,[.cells 104 [(zg v0.1.barrier),.own 1,.own 2,(zg v0.1.end_)],.row 140 .sPartitionPlace [(4,3)] [(x1,4,none)] v0.1.qq,.row 189 .sChannelPlace [(4,209)] [] v0.1.qw,.cells 213 [(zg c.qr),.own 4],.row 219 .sHealthWard [(4,3)] [] x2],GL,0,[],(fun e=>match e with | 72=>[(6,138),(7,74)] | 136=>[(0,135)] | 140=>[(4,3)] | 189=>[(4,209)] | 219=>[(4,3)] | _=>[])⟩)
def zxv(c:za):zis->Tree zis ziw | .l0 v0 x0 x1 x2 =>let y2:=zb c.qq x0.toNat;let y1:=(⟨(zn v0.1.qq x0.toNat),(u32.wrap (y2.entry)),(u32.wrap (y2.qR)),(u32.wrap (y2.qW)),(⟨(),()⟩:zay)⟩:zX);let y3:=(x2:List zX);.g (decide (x0<c.qq.length)) <| .g (zO x0 c.qq.length) <| .g (zO x0 v0.1.qq.length) <| .g ((Nat.ble x1 x0.toNat&&true)&&true) <| .g (leB ((y3.length+([y1]:List zX).length)*88) 140737488355328) <| .j (.l0 v0 (i64.wrap (x0+1)) (Nat.max (x0.toNat+1) (Nat.max x1 0)) (y3++[y1]))
def zxG(c:za):Tree zis ziw:=.b (zdK c) fun r1=>.c (!((r1.1:Int)==0)) (.r (none,232)) (.b (zc4 c) fun r2=>.c (!((r2.2:Int)==0)) (.r (none,232)) (.j (.l0 r2 0 0 [])))
def zyj(c:za):zis->Option ziw:=zal (zxv c)
def zcj(c:za):Option ziw:=(zxG c).run (zyj c)
theorem zxZ(c:za):Oks 49 [.agg (Ty.enc .sConfig c)] [] (zcj c) zCA:=zL GC7 (H:=zCY) zJ Tryz.func49 rfl (by kernel_rfl) (zCj c) (fun J l=>by cases l <;> kernel_rfl) (fun J=>by kernel_rfl)
abbrev R48:=zG × Int
def to48(r:R48):Ans:=⟨.tup [.ref 0 0,(zg r.2)],[.cells 174 [(zg r.1.c.qr),(zg r.1.c.major),(zg r.1.c.kernel),(zg r.1.c.room),.own 1,.own 2,.own 3,(zg r.1.lay.barrier),.own 4,.own 5,(zg r.1.lay.end_)],.row 136 (.sl .sWindow) [(0,135)] [] r.1.c.qp,.row 72 .sPartition [(6,138),(7,74)] [] r.1.c.qq,.arr 76 .sChannel r.1.c.qw,.row 140 .sPartitionPlace [(4,3)] [] r.1.lay.qq,.row 189 .sChannelPlace [(4,209)] [] r.1.lay.qw]⟩
inductive L48 where | l0 (v0:R47) (x0:Int) (x1:List zf)
def H48:zab:=⟨fun n=>[].any (Nat.beq n),zfi [(0,⟨fgt [6,8,35,36,37] 55 0,[(.box 8 5,.own 72 .sPartition)]⟩)],[(.slot 0,.fnc),(.box 0 4,.own 136 (.sl .sWindow))],G0,(fun e=>match e with | 72=>[(6,138),(7,74)] | 136=>[(0,135)] | 140=>[(4,3)] | 189=>[(4,209)] | _=>[])⟩
def st48(c:za):L48->Nat × St | .l0 v0 x0 x1=>(0,⟨mkE [(6,.ref 0 0),(8,.ref 3 0),(35,.sl .sPartition c.qq),(36,(zg c.qq.length)),(37,(zg x0))] 55 0,[.cells 104 [(zg v0.1.barrier),.own 1,.own 2,(zg v0.1.end_)],.row 140 .sPartitionPlace [(4,3)] [] v0.1.qq,.row 189 .sChannelPlace [(4,209)] [] v0.1.qw,.cells 26 [(zg c.qr),(zg 0),(zg 0),(zg 0),.v (.slice none 0 0),.own 4,.own 5],.row 72 .sPartition [(6,138),(7,74)] [] x1,.arr 76 .sChannel (([]:List zI)++c.qw)],GL,0,[],(fun e=>match e with | 72=>[(6,138),(7,74)] | 136=>[(0,135)] | 140=>[(4,3)] | 189=>[(4,209)] | _=>[])⟩)
def zva(c:za):L48->Tree L48 R48 | .l0 v0 x0 x1 =>let y2:=zb c.qq x0.toNat;let y1:=(⟨(ByteArray.mk #[]),0,0,0,0,0,[],(([]:List zb9)++y2.qt)⟩:zf);let y3:=(x1:List zf);.c (decide (x0<c.qq.length)) (.g (zO x0 c.qq.length) <| .g (leB ((([]:List zb9).length+(y2.qt:List zb9).length)*16) 140737488355328) <| .g (leB ((y3.length+([y1]:List zf).length)*104) 140737488355328) <| .j (.l0 v0 (i64.wrap (x0+1)) (y3++[y1]))) (.r ((⟨(⟨c.qr,0,0,0,[],x1,(([]:List zI)++c.qw)⟩:za),v0.1⟩:zG),0))
def zEU(c:za):Tree L48 R48:=.b (zdK c) fun r1=>.c (!((r1.1:Int)==0)) (.n) (.b (zc4 c) fun r2=>.c (!((r2.2:Int)==0)) (.n) (.g (leB ((([]:List zI).length+(c.qw:List zI).length)*24) 140737488355328) <| .j (.l0 r2 0 [])))
def zsS(c:za):L48->Option R48:=zal (zva c)
theorem zsT(c:za)(l:L48):zsS c l=(zva c l).run (zsS c):=zE _ l
def znF(c:za):Option R48:=(zEU c).run (zsS c)
theorem zN3(c:za):Oks 48 [.agg (Ty.enc .sConfig c)] [] (znF c) to48:=zL GC7 (H:=H48) zJ Tryz.func48 rfl (by kernel_rfl) (st48 c) (fun J l=>by cases l <;> kernel_rfl) (fun J=>by kernel_rfl)
abbrev ziv:=(Option zG) × Int
def zCz(r:ziv):Ans:=⟨.tup [.v (.pointer none),(zg r.2)],[]⟩
inductive zir where | l0 (v0:R47) (x0:Int) (x1:List zf)
def zCX:zab:=⟨fun n=>[].any (Nat.beq n),zfi [(0,⟨fgt [6,8,35,36,37] 55 0,[(.box 8 5,.own 72 .sPartition)]⟩)],[(.slot 0,.nilp)],G0,(fun e=>match e with | 72=>[(6,138),(7,74)] | 136=>[(0,135)] | 140=>[(4,3)] | 189=>[(4,209)] | _=>[])⟩
def zCi(c:za):zir->Nat × St | .l0 v0 x0 x1=>(0,⟨mkE [(6,.ref 0 0),(8,.ref 3 0),(35,.sl .sPartition c.qq),(36,(zg c.qq.length)),(37,(zg x0))] 55 0,[.cells 104 [(zg v0.1.barrier),.own 1,.own 2,(zg v0.1.end_)],.row 140 .sPartitionPlace [(4,3)] [] v0.1.qq,.row 189 .sChannelPlace [(4,209)] [] v0.1.qw,.cells 26 [(zg c.qr),(zg 0),(zg 0),(zg 0),.v (.slice none 0 0),.own 4,.own 5],.row 72 .sPartition [(6,138),(7,74)] [] x1,.arr 76 .sChannel (([]:List zI)++c.qw)],GL,0,[],(fun e=>match e with | 72=>[(6,138),(7,74)] | 136=>[(0,135)] | 140=>[(4,3)] | 189=>[(4,209)] | _=>[])⟩)
def zxu(c:za):zir->Tree zir ziv | .l0 v0 x0 x1 =>let y2:=zb c.qq x0.toNat;let y1:=(⟨(ByteArray.mk #[]),0,0,0,0,0,[],(([]:List zb9)++y2.qt)⟩:zf);let y3:=(x1:List zf);.g (decide (x0<c.qq.length)) <| .g (zO x0 c.qq.length) <| .g (leB ((([]:List zb9).length+(y2.qt:List zb9).length)*16) 140737488355328) <| .g (leB ((y3.length+([y1]:List zf).length)*104) 140737488355328) <| .j (.l0 v0 (i64.wrap (x0+1)) (y3++[y1]))
def zxF(c:za):Tree zir ziv:=.b (zdK c) fun r1=>.c (!((r1.1:Int)==0)) (.r (none,210)) (.b (zc4 c) fun r2=>.c (!((r2.2:Int)==0)) (.r (none,210)) (.g (leB ((([]:List zI).length+(c.qw:List zI).length)*24) 140737488355328) <| .j (.l0 r2 0 [])))
def zyi(c:za):zir->Option ziv:=zal (zxu c)
def zft(c:za):Option ziv:=(zxF c).run (zyi c)
theorem zxY(c:za):Oks 48 [.agg (Ty.enc .sConfig c)] [] (zft c) zCz:=zL GC7 (H:=zCX) zJ Tryz.func48 rfl (by kernel_rfl) (zCi c) (fun J l=>by cases l <;> kernel_rfl) (fun J=>by kernel_rfl)
abbrev R27:=(Option zaV) × Int
def to27(r:R27):Ans:=⟨.tup [.op .sBulkheadref25Calls r.1,(zg r.2)],[]⟩
def H27:zab:=⟨fun _=>false,fun _=>⟨[],[]⟩,[(.slot 0,.op .sBulkheadref25Calls)],G0,zN⟩
def znA(c:za)(qi:(List z7)):Option R27:=Tree.run0 <|
 .c (decide ((qi.length:Int)>4096))
 (.r (none,2))
 (.b (zfv c) fun r1=>
 .c (!((r1.1:Int)==0))
 (.r (none,250))
 (.b (zgU c) fun r3=>
 .b (zwg c) fun r5=>
 .b (zwh c) fun r7=>
 .b (zwi c qi) fun r9=>
 .c (!((r9.2:Int)==0))
 (.r (none,220))
 (.r ((some (⟨c,r3.1,r5.1,r9.1,r7.1⟩:zaV)),0))))
theorem zNK(c:za)(qi:(List z7)):Oks 27 [.agg (Ty.enc .sConfig c),.sl .sFeed qi] [] (znA c qi) to27:=zM GC7 (H:=H27) zJ Tryz.func27 rfl (by kernel_rfl) (fun J=>by kernel_rfl)
abbrev R37:=Unit
def to37(r:R37):Ans:=⟨.agg [.fn (.func 62) [] [],.fn (.func 63) [] [],.fn (.func 64) [] [],.fn (.func 65) [] [],.fn (.func 66) [] [],.fn (.func 67) [] [],.fn (.func 68) [] [],.fn (.func 69) [] []],[]⟩
def sp37:R37:=()
theorem zNU:Oks 37 [] [] (some (sp37)) to37:=zbj GC7 (H:=H0) zJ Tryz.func37 rfl (by kernel_rfl) (fun J=>by kernel_rfl)
def k27:Fk 27:=aF (aS .sConfig fun a0=>aL (.sl .sFeed) fun a1=>aE (zNK a0 a1))
def k37:Fk 37:=aF (aE (zNU))
def k46:Fk 46:=aF (aS .sConfig fun a0=>aL (.sl .sFeed) fun a1=>aE (zN1 a0 a1))
def zDH:Fk 46:=aF (aS .sConfig fun a0=>aL (.sl .sFeed) fun a1=>aE (zxX a0 a1))
def k48:Fk 48:=aF (aS .sConfig fun a0=>aE (zN3 a0))
def zDI:Fk 48:=aF (aS .sConfig fun a0=>aE (zxY a0))
def k49:Fk 49:=aF (aS .sConfig fun a0=>aE (zN4 a0))
def zDJ:Fk 49:=aF (aS .sConfig fun a0=>aE (zxZ a0))
def GC8:GK:=zDz [⟨46,zDH⟩,⟨48,zDI⟩,⟨49,zDJ⟩] (zhZ [⟨27,k27⟩,⟨37,k37⟩,⟨46,k46⟩,⟨48,k48⟩,⟨49,k49⟩] GC7)
abbrev R12:=zB × Int × Bool × Int × ze
def to12(r:R12):Ans:=⟨.tup [.agg [(zu r.1.qz.e0),(zu r.1.qz.e1),(zu r.1.qz.e2),(zu r.1.qz.e3),(zu r.1.qz.e4),(zu r.1.qz.e5),(zu r.1.qz.e6),(zu r.1.qz.e7),(zu r.1.qz.e8),(zu r.1.qz.e9),(zu r.1.qz.e10),(zu r.1.qz.e11),(zu r.1.qz.e12),(zu r.1.qz.e13),(zu r.1.qz.e14),(zu r.1.qz.e15),(zu r.1.pC)],(zu r.2.1),(avB r.2.2.1),(zg r.2.2.2.1)],[.cells 112 [.own 1],.arr 46 (.i .u32) r.2.2.2.2.qx]⟩
inductive L12 where | l31 (x0:Int) (x1:Bool) (x2:List Int) (x3:Int) (x4:Int) (x5:Int)
def H12:zab:=htt [15] [(31,⟨fgt [11,12,18,20,21] 96 0,[]⟩)] []
def st12(s:(Option zr))(p:Int)(qu:Int)(call_:Int)(x:zB)(ws:List Int):L12->Nat × St | .l31 x0 x1 x2 x3 x4 x5=>(31,⟨mkE [(11,.ref 2 0),(12,.ref 3 0),(18,.ref 4 0),(20,(zu x0)),(21,(avB x1))] 96 0,[.cells 112 [.own 1],.arr 46 (.i .u32) x2,.cells 57 (Ty.enc .sContext x),.cells 57 [(zu 0),(zu 0),(zu 0),(zu 0),(zu 0),(zu 0),(zu 0),(zu 0),(zu 0),(zu 0),(zu 0),(zu 0),(zu 0),(zu 0),(zu 0),(zu 0),(zu 0)],.cells 118 [(zu x3),(zu x4),(zu x5)]],GL,2,[],zN⟩)
def zzC(s:(Option zr))(p:Int)(qu:Int)(call_:Int)(x:zB)(ws:List Int):L12->Tree L12 R12 | .l31 x0 x1 x2 x3 x4 x5=>.g (zO 1 16) <| .g (zO 2 16) <| .g (zO 3 16) <| .r ((⟨(⟨x.qz.e0,x3,x4,x5,x.qz.e4,x.qz.e5,x.qz.e6,x.qz.e7,x.qz.e8,x.qz.e9,x.qz.e10,x.qz.e11,x.qz.e12,x.qz.e13,x.qz.e14,x.qz.e15⟩:z6),x.pC⟩:zB),x0,x1,0,(⟨x2⟩:ze))
def zEF(s:(Option zr))(p:Int)(qu:Int)(call_:Int)(x:zB)(ws:List Int):Tree L12 R12:=.c s.isNone (.r ((⟨(⟨0,0,0,0,0,0,0,0,0,0,0,0,0,0,0,0⟩:z6),0⟩:zB),0,false,3,(⟨ws⟩:ze))) (.b (zdJ (some (⟨ws⟩:ze))) fun r1=>.g s.isSome <| .c (!((r1:Int)==(s.getD default).qr)) (.r ((⟨(⟨0,0,0,0,0,0,0,0,0,0,0,0,0,0,0,0⟩:z6),0⟩:zB),0,false,250,(⟨ws⟩:ze))) (.b (zpv s p call_) fun r2=>.c (!((r2:Int)==0)) (.r ((⟨(⟨0,0,0,0,0,0,0,0,0,0,0,0,0,0,0,0⟩:z6),0⟩:zB),0,false,251,(⟨ws⟩:ze))) (.c (decide ((qu:Int)<0)) (.r ((⟨(⟨0,0,0,0,0,0,0,0,0,0,0,0,0,0,0,0⟩:z6),0⟩:zB),0,false,251,(⟨ws⟩:ze))) (.c (decide ((qu:Int)>=1073741824)) (.r ((⟨(⟨0,0,0,0,0,0,0,0,0,0,0,0,0,0,0,0⟩:z6),0⟩:zB),0,false,251,(⟨ws⟩:ze))) (.g (zO call_ 8) <| .c (Nat.beq call_.toNat 0) (.b (zti s p qu x ws) fun r3=>.c (!((r3.2.1:Int)==0)) (.r ((⟨(⟨0,0,0,0,0,0,0,0,0,0,0,0,0,0,0,0⟩:z6),0⟩:zB),0,false,r3.2.1,(r3.2.2.m.getD default))) (.c ((call_:Int)==5) (.c ((r3.1.one:Int)==0) (.g (zO 1 16) <| .j (.l31 x.qz.e1 true ((r3.2.2.m.getD default).qx) r3.1.one r3.1.two r3.1.three)) (.j (.l31 0 false ((r3.2.2.m.getD default).qx) r3.1.one r3.1.two r3.1.three))) (.j (.l31 0 false ((r3.2.2.m.getD default).qx) r3.1.one r3.1.two r3.1.three)))) (.c (Nat.beq call_.toNat 1) (.b (ztj s p qu x ws) fun r4=>.c (!((r4.2.1:Int)==0)) (.r ((⟨(⟨0,0,0,0,0,0,0,0,0,0,0,0,0,0,0,0⟩:z6),0⟩:zB),0,false,r4.2.1,(r4.2.2.m.getD default))) (.c ((call_:Int)==5) (.c ((r4.1.one:Int)==0) (.g (zO 1 16) <| .j (.l31 x.qz.e1 true ((r4.2.2.m.getD default).qx) r4.1.one r4.1.two r4.1.three)) (.j (.l31 0 false ((r4.2.2.m.getD default).qx) r4.1.one r4.1.two r4.1.three))) (.j (.l31 0 false ((r4.2.2.m.getD default).qx) r4.1.one r4.1.two r4.1.three)))) (.c (Nat.beq call_.toNat 2) (.b (ztk s p qu x ws) fun r5=>.c (!((r5.2.1:Int)==0)) (.r ((⟨(⟨0,0,0,0,0,0,0,0,0,0,0,0,0,0,0,0⟩:z6),0⟩:zB),0,false,r5.2.1,(r5.2.2.m.getD default))) (.c ((call_:Int)==5) (.c ((r5.1.one:Int)==0) (.g (zO 1 16) <| .j (.l31 x.qz.e1 true ((r5.2.2.m.getD default).qx) r5.1.one r5.1.two r5.1.three)) (.j (.l31 0 false ((r5.2.2.m.getD default).qx) r5.1.one r5.1.two r5.1.three))) (.j (.l31 0 false ((r5.2.2.m.getD default).qx) r5.1.one r5.1.two r5.1.three)))) (.c (Nat.beq call_.toNat 3) (.b (ztl s p qu x ws) fun r6=>.c (!((r6.2.1:Int)==0)) (.r ((⟨(⟨0,0,0,0,0,0,0,0,0,0,0,0,0,0,0,0⟩:z6),0⟩:zB),0,false,r6.2.1,(r6.2.2.m.getD default))) (.c ((call_:Int)==5) (.c ((r6.1.one:Int)==0) (.g (zO 1 16) <| .j (.l31 x.qz.e1 true ((r6.2.2.m.getD default).qx) r6.1.one r6.1.two r6.1.three)) (.j (.l31 0 false ((r6.2.2.m.getD default).qx) r6.1.one r6.1.two r6.1.three))) (.j (.l31 0 false ((r6.2.2.m.getD default).qx) r6.1.one r6.1.two r6.1.three)))) (.c (Nat.beq call_.toNat 4) (.b (ztm s p qu x ws) fun r7=>.c (!((r7.2.1:Int)==0)) (.r ((⟨(⟨0,0,0,0,0,0,0,0,0,0,0,0,0,0,0,0⟩:z6),0⟩:zB),0,false,r7.2.1,(r7.2.2.m.getD default))) (.c ((call_:Int)==5) (.c ((r7.1.one:Int)==0) (.g (zO 1 16) <| .j (.l31 x.qz.e1 true ((r7.2.2.m.getD default).qx) r7.1.one r7.1.two r7.1.three)) (.j (.l31 0 false ((r7.2.2.m.getD default).qx) r7.1.one r7.1.two r7.1.three))) (.j (.l31 0 false ((r7.2.2.m.getD default).qx) r7.1.one r7.1.two r7.1.three)))) (.c (Nat.beq call_.toNat 5) (.b (ztn s p qu x ws) fun r8=>.c (!((r8.2.1:Int)==0)) (.r ((⟨(⟨0,0,0,0,0,0,0,0,0,0,0,0,0,0,0,0⟩:z6),0⟩:zB),0,false,r8.2.1,(r8.2.2.m.getD default))) (.c ((call_:Int)==5) (.c ((r8.1.one:Int)==0) (.g (zO 1 16) <| .j (.l31 x.qz.e1 true ((r8.2.2.m.getD default).qx) r8.1.one r8.1.two r8.1.three)) (.j (.l31 0 false ((r8.2.2.m.getD default).qx) r8.1.one r8.1.two r8.1.three))) (.j (.l31 0 false ((r8.2.2.m.getD default).qx) r8.1.one r8.1.two r8.1.three)))) (.c (Nat.beq call_.toNat 6) (.c (!(((zfl s p qu x ws).2.1:Int)==0)) (.r ((⟨(⟨0,0,0,0,0,0,0,0,0,0,0,0,0,0,0,0⟩:z6),0⟩:zB),0,false,(zfl s p qu x ws).2.1,((zfl s p qu x ws).2.2.m.getD default))) (.c ((call_:Int)==5) (.c (((zfl s p qu x ws).1.one:Int)==0) (.g (zO 1 16) <| .j (.l31 x.qz.e1 true (((zfl s p qu x ws).2.2.m.getD default).qx) ((zfl s p qu x ws).1.one) ((zfl s p qu x ws).1.two) ((zfl s p qu x ws).1.three))) (.j (.l31 0 false (((zfl s p qu x ws).2.2.m.getD default).qx) ((zfl s p qu x ws).1.one) ((zfl s p qu x ws).1.two) ((zfl s p qu x ws).1.three)))) (.j (.l31 0 false (((zfl s p qu x ws).2.2.m.getD default).qx) ((zfl s p qu x ws).1.one) ((zfl s p qu x ws).1.two) ((zfl s p qu x ws).1.three))))) (.g (Nat.beq call_.toNat 7) <| .b (zto s p qu x ws) fun r9=>.c (!((r9.2.1:Int)==0)) (.r ((⟨(⟨0,0,0,0,0,0,0,0,0,0,0,0,0,0,0,0⟩:z6),0⟩:zB),0,false,r9.2.1,(r9.2.2.m.getD default))) (.c ((call_:Int)==5) (.c ((r9.1.one:Int)==0) (.g (zO 1 16) <| .j (.l31 x.qz.e1 true ((r9.2.2.m.getD default).qx) r9.1.one r9.1.two r9.1.three)) (.j (.l31 0 false ((r9.2.2.m.getD default).qx) r9.1.one r9.1.two r9.1.three))) (.j (.l31 0 false ((r9.2.2.m.getD default).qx) r9.1.one r9.1.two r9.1.three)))))))))))))))
def zv4(s:(Option zr))(p:Int)(qu:Int)(call_:Int)(x:zB)(ws:List Int):L12->Option R12:=zal (zzC s p qu call_ x ws)
theorem zB3(s:(Option zr))(p:Int)(qu:Int)(call_:Int)(x:zB)(ws:List Int)(l:L12):zv4 s p qu call_ x ws l=(zzC s p qu call_ x ws l).run (zv4 s p qu call_ x ws):=zE _ l
def zeB(s:(Option zr))(p:Int)(qu:Int)(call_:Int)(x:zB)(ws:List Int):Option R12:=(zEF s p qu call_ x ws).run (zv4 s p qu call_ x ws)
theorem zNy(s:(Option zr))(p:Int)(qu:Int)(call_:Int)(x:zB)(ws:List Int):Oks 12 [.op .sCallsCalls s,.ref 0 0,(zg p),(zg qu),(zg call_),.agg (Ty.enc .sContext x)] [.cells 112 [.own 1],.arr 46 (.i .u32) ws] (zeB s p qu call_ x ws) to12:=zL GC8 (H:=H12) zJ Tryz.func12 rfl (by kernel_rfl) (st12 s p qu call_ x ws) (fun J l=>by cases l <;> kernel_rfl) (fun J=>by kernel_rfl)
abbrev R26:=zr × Int
def to26(r:R26):Ans:=⟨.tup [.ref 0 0,(zg r.2)],[.cells 109 [(zg r.1.qr),(zg r.1.lay.barrier),.own 1,.own 2,(zg r.1.lay.end_),.ref 3 0,.ref 9 0,.ref 13 0],.row 140 .sPartitionPlace [(4,3)] [] r.1.lay.qq,.row 189 .sChannelPlace [(4,209)] [] r.1.lay.qw,.cells 174 [(zg ((r.1.qg.getD default).c.qr)),(zg ((r.1.qg.getD default).c.major)),(zg ((r.1.qg.getD default).c.kernel)),(zg ((r.1.qg.getD default).c.room)),.own 4,.own 5,.own 6,(zg ((r.1.qg.getD default).lay.barrier)),.own 7,.own 8,(zg ((r.1.qg.getD default).lay.end_))],.row 136 (.sl .sWindow) [(0,135)] [] ((r.1.qg.getD default).c.qp),.row 72 .sPartition [(6,138),(7,74)] [] ((r.1.qg.getD default).c.qq),.arr 76 .sChannel ((r.1.qg.getD default).c.qw),.row 140 .sPartitionPlace [(4,3)] [] ((r.1.qg.getD default).lay.qq),.row 189 .sChannelPlace [(4,209)] [] ((r.1.qg.getD default).lay.qw),.cells 197 [(zg ((r.1.qf.getD default).qr)),.own 10,.own 11,.om 12],.arr 3 (.i .i64) ((r.1.qf.getD default).outs),.arr 3 (.i .i64) ((r.1.qf.getD default).at_),.map .sDeviceWhen (.sl (.i .u32)) [(0,46)] ((r.1.qf.getD default).qi),.cells 213 [(zg ((r.1.qh.getD default).qr)),.own 14],.row 219 .sHealthWard [(4,3)] [] ((r.1.qh.getD default).qh)]⟩
def H26:zab:=⟨fun _=>false,fun _=>⟨[],[]⟩,[(.slot 0,.fnc),(.box 0 5,.fnc),(.box 0 6,.fnc),(.box 0 7,.fnc)],G0,(fun e=>match e with | 72=>[(6,138),(7,74)] | 136=>[(0,135)] | 140=>[(4,3)] | 189=>[(4,209)] | 195=>[(0,46)] | 219=>[(4,3)] | _=>[])⟩
def zjt(c:za)(qi:(List z7)):Option R26:=Tree.run0 <|
 .c (decide ((qi.length:Int)>4096))
 (.n)
 (.b (zdK c) fun r1=>
 .c (!((r1.1:Int)==0))
 (.n)
 (.o (znE c qi) (fun r2=>
 .c (!((r2.2:Int)==0))
 (.n)
 (.b (zc4 c) fun r3=>
 .o (znF c) (fun r4=>
 .o (zgT c) (fun r5=>
 .c (!((r3.2:Int)==0))
 (.n)
 (.c (!((r4.2:Int)==0))
 (.n)
 (.c (!((r5.2:Int)==0))
 (.n)
 (.r ((⟨c.qr,r3.1,(some r4.1),(some r2.1),(some r5.1)⟩:zr),0)))))
 (.b (zcj c) fun r6=>
 .c (!((r3.2:Int)==0))
 (.n)
 (.c (!((r4.2:Int)==0))
 (.n)
 (.g (!((r6.2:Int)==0)) <|
 .n))))
 (.b (zft c) fun r7=>
 .o (zgT c) (fun r8=>
 .c (!((r3.2:Int)==0))
 (.n)
 (.c (!((r7.2:Int)==0))
 (.n)
 (.g (!((r8.2:Int)==0)) <|
 .n)))
 (.b (zcj c) fun r9=>
 .c (!((r3.2:Int)==0))
 (.n)
 (.c (!((r7.2:Int)==0))
 (.n)
 (.g (!((r9.2:Int)==0)) <|
 .n))))))
 (.b (zeh c qi) fun r10=>
 .c (!((r10.2:Int)==0))
 (.n)
 (.b (zc4 c) fun r11=>
 .o (znF c) (fun r12=>
 .o (zgT c) (fun r13=>
 .c (!((r11.2:Int)==0))
 (.n)
 (.c (!((r12.2:Int)==0))
 (.n)
 (.g (!((r13.2:Int)==0)) <|
 .n)))
 (.b (zcj c) fun r14=>
 .c (!((r11.2:Int)==0))
 (.n)
 (.c (!((r12.2:Int)==0))
 (.n)
 (.g (!((r14.2:Int)==0)) <|
 .n))))
 (.b (zft c) fun r15=>
 .o (zgT c) (fun r16=>
 .c (!((r11.2:Int)==0))
 (.n)
 (.c (!((r15.2:Int)==0))
 (.n)
 (.g (!((r16.2:Int)==0)) <|
 .n)))
 (.b (zcj c) fun r17=>
 .c (!((r11.2:Int)==0))
 (.n)
 (.c (!((r15.2:Int)==0))
 (.n)
 (.g (!((r17.2:Int)==0)) <|
 .n))))))))
theorem zNJ(c:za)(qi:(List z7)):Oks 26 [.agg (Ty.enc .sConfig c),.sl .sFeed qi] [] (zjt c qi) to26:=zM GC8 (H:=H26) zJ Tryz.func26 rfl (by kernel_rfl) (fun J=>by kernel_rfl)
abbrev zu0:=(Option zr) × Int
def zCx(r:zu0):Ans:=⟨.tup [.v (.pointer none),(zg r.2)],[]⟩
def zCV:zab:=⟨fun _=>false,fun _=>⟨[],[]⟩,[(.slot 0,.nilp)],G0,(fun e=>match e with | 72=>[(6,138),(7,74)] | 136=>[(0,135)] | 140=>[(4,3)] | 189=>[(4,209)] | 195=>[(0,46)] | 219=>[(4,3)] | _=>[])⟩
def zdm(c:za)(qi:(List z7)):Option zu0:=Tree.run0 <|
 .c (decide ((qi.length:Int)>4096))
 (.r (none,2))
 (.b (zdK c) fun r1=>
 .c (!((r1.1:Int)==0))
 (.r (none,250))
 (.o (znE c qi) (fun r2=>
 .c (!((r2.2:Int)==0))
 (.r (none,r2.2))
 (.b (zc4 c) fun r3=>
 .o (znF c) (fun r4=>
 .o (zgT c) (fun r5=>
 .c (!((r3.2:Int)==0))
 (.r (none,250))
 (.c (!((r4.2:Int)==0))
 (.r (none,250))
 (.g (!((r5.2:Int)==0)) <|
 .r (none,250))))
 (.b (zcj c) fun r6=>
 .c (!((r3.2:Int)==0))
 (.r (none,250))
 (.c (!((r4.2:Int)==0))
 (.r (none,250))
 (.g (!((r6.2:Int)==0)) <|
 .r (none,250)))))
 (.b (zft c) fun r7=>
 .o (zgT c) (fun r8=>
 .c (!((r3.2:Int)==0))
 (.r (none,250))
 (.c (!((r7.2:Int)==0))
 (.r (none,250))
 (.g (!((r8.2:Int)==0)) <|
 .r (none,250))))
 (.b (zcj c) fun r9=>
 .c (!((r3.2:Int)==0))
 (.r (none,250))
 (.c (!((r7.2:Int)==0))
 (.r (none,250))
 (.g (!((r9.2:Int)==0)) <|
 .r (none,250)))))))
 (.b (zeh c qi) fun r10=>
 .c (!((r10.2:Int)==0))
 (.r (none,r10.2))
 (.b (zc4 c) fun r11=>
 .o (znF c) (fun r12=>
 .o (zgT c) (fun r13=>
 .c (!((r11.2:Int)==0))
 (.r (none,250))
 (.c (!((r12.2:Int)==0))
 (.r (none,250))
 (.g (!((r13.2:Int)==0)) <|
 .r (none,250))))
 (.b (zcj c) fun r14=>
 .c (!((r11.2:Int)==0))
 (.r (none,250))
 (.c (!((r12.2:Int)==0))
 (.r (none,250))
 (.g (!((r14.2:Int)==0)) <|
 .r (none,250)))))
 (.b (zft c) fun r15=>
 .o (zgT c) (fun r16=>
 .c (!((r11.2:Int)==0))
 (.r (none,250))
 (.c (!((r15.2:Int)==0))
 (.r (none,250))
 (.g (!((r16.2:Int)==0)) <|
 .r (none,250))))
 (.b (zcj c) fun r17=>
 .c (!((r11.2:Int)==0))
 (.r (none,250))
 (.c (!((r15.2:Int)==0))
 (.r (none,250))
 (.g (!((r17.2:Int)==0)) <|
 .r (none,250)))))))))
theorem zxW(c:za)(qi:(List z7)):Oks 26 [.agg (Ty.enc .sConfig c),.sl .sFeed qi] [] (zdm c qi) zCx:=zM GC8 (H:=zCV) zJ Tryz.func26 rfl (by kernel_rfl) (fun J=>by kernel_rfl)
def g12(args:List AV)(hp:List Blk):Option Rsp:=
 match args,hp with
 | [a0,.ref 0 0,a2,a3,a4,a5],[.cells 112 [.own 1],.arr 46 (.i .u32) y0]=>(rdL (.p .sCallsCalls) a0).bind fun b0=>(rdL (.i .i64) a2).bind fun b2=>(rdL (.i .i64) a3).bind fun b3=>(rdL (.i .i64) a4).bind fun b4=>(rdS .sContext a5).bind fun b5=>some ⟨R12,(zeB b0 b2 b3 b4 b5 y0),to12,default⟩
 | _,_=>none
def k12:Fk 12:=⟨g12,fun args hp y h x hx=>by
 unfold g12 at h
 split at h
 . simp only[Option.bind_eq_some_iff]at h
   obtain ⟨b0,h0,b2,h2,b3,h3,b4,h4,b5,h5,h⟩:=h
   cases h;exact(zNy b0 b2 b3 b4 b5 _).ats (.cons (z9 h0) (.cons (fun _ _ _ _ h=>h) (.cons (z9 h2) (.cons (z9 h3) (.cons (z9 h4) (.cons (zcy h5) .nil)))))) hx
 . cases h⟩
def k26:Fk 26:=aF (aS .sConfig fun a0=>aL (.sl .sFeed) fun a1=>aE (zNJ a0 a1))
def zDG:Fk 26:=aF (aS .sConfig fun a0=>aL (.sl .sFeed) fun a1=>aE (zxW a0 a1))
def GC9:GK:=zDz [⟨26,zDG⟩] (zhZ [⟨12,k12⟩,⟨26,k26⟩] GC8)
abbrev R8:=zS × Bool
def to8(r:R8):Ans:=⟨.tup [.ref 0 0,(avB r.2)],[.cells 45 [(zg r.1.c.qr),(zg r.1.c.major),(zg r.1.c.kernel),(zg r.1.c.room),.sl (.sl .sWindow) r.1.c.qp,.sl .sPartition r.1.c.qq,.sl .sChannel r.1.c.qw,.op .sCallsCalls r.1.s,.op .sBulkheadref25Calls r.1.r,.ref 1 0,.op .sBulkheadref05Memory r.1.n,.op .sMemMemory r.1.p,.op .sBulkheadref05Memory r.1.q,.sl .sBulkheadlaw25KeptInts r.1.kept.ints],.cells 112 [.own 2],.arr 46 (.i .u32) ((r.1.m.getD default).qx)]⟩
inductive L8 where | l33 (v0:R30) (v1:R27) (x0:Option zr)
def H8:zab:=⟨fun n=>[16].any (Nat.beq n),zfi [(33,⟨fgt [4,11] 154 0,[(.box 4 7,.op .sCallsCalls)]⟩)],[(.box 0 7,.op .sCallsCalls),(.box 0 8,.op .sBulkheadref25Calls),(.box 0 9,.fnc),(.box 0 10,.op .sBulkheadref05Memory),(.box 0 11,.op .sMemMemory),(.box 0 12,.op .sBulkheadref05Memory),(.box 0 13,.sl .sBulkheadlaw25KeptInts)],G0,(fun e=>match e with | 72=>[(6,138),(7,74)] | 85=>[(2,46)] | 136=>[(0,135)] | 140=>[(4,3)] | 189=>[(4,209)] | 195=>[(0,46)] | 219=>[(4,3)] | _=>[])⟩
def st8(x:zp):L8->Nat × St | .l33 v0 v1 x0=>(33,⟨mkE [(4,.ref 0 0),(11,.sl (.i .u32) v0.1)] 154 0,[.cells 45 [(zg x.qj.qr),(zg x.qj.major),(zg x.qj.kernel),(zg x.qj.room),.sl (.sl .sWindow) x.qj.qp,.sl .sPartition x.qj.qq,.sl .sChannel x.qj.qw,.op .sCallsCalls x0,.op .sBulkheadref25Calls v1.1,.v (.pointer none),.v (.pointer none),.v (.pointer none),.v (.pointer none),.v (.slice none 0 0)]],GL,0,[],(fun e=>match e with | 72=>[(6,138),(7,74)] | 85=>[(2,46)] | 136=>[(0,135)] | 140=>[(4,3)] | 189=>[(4,209)] | 195=>[(0,46)] | 219=>[(4,3)] | _=>[])⟩)
def zG3(x:zp):L8->Tree L8 R8 | .l33 v0 v1 x0 =>let y1:=(⟨[]⟩:zav);.b (zli v0.1) fun r21=>.b (znB v0.1) fun r23=>.b (zli v0.1) fun r24=>.b (znB v0.1) fun r26=>.c ((r21.2:Int)==0) (.c ((r23.2:Int)==0) (.r ((⟨x.qj,x0,v1.1,(some r21.1),r23.1,(some r24.1),r26.1,y1⟩:zS),true)) (.r ((⟨x.qj,x0,v1.1,(some r21.1),r23.1,(some r24.1),r26.1,y1⟩:zS),false))) (.r ((⟨x.qj,x0,v1.1,(some r21.1),r23.1,(some r24.1),r26.1,y1⟩:zS),false))
def zHy(x:zp):Tree L8 R8:=.b (ztc x.qj) fun r1=>.b (ztd x.qi) fun r2=>.o (zjt r1 r2) (fun r3=>.b (znA x.qj x.qi) fun r5=>.b (zlg r1.qr r1.major r1.kernel r1.room x.qj r1.qp r1.qq r1.qw) fun r6=>.b (zlh x.qi r2) fun r7=>.c (!r6.1) (.n) (.c (!r7.1) (.n) (.c (!((r3.2:Int)==r5.2)) (.n) (.c (!(false==r5.1.isNone)) (.n) (.c r5.1.isNone (.n) (.b (zf3 x.qj x.qo) fun r9=>.c (!((r9.2.1:Int)==0)) (.b (zf3 x.qj []) fun r11=>.j (.l33 r11 r5 (some (⟨r3.1.qr,r3.1.lay,(some (r3.1.qg.getD default)),(some (r3.1.qf.getD default)),(some (r3.1.qh.getD default))⟩:zr)))) (.j (.l33 r9 r5 (some (⟨r3.1.qr,r3.1.lay,(some (r3.1.qg.getD default)),(some (r3.1.qf.getD default)),(some (r3.1.qh.getD default))⟩:zr)))))))))) (.b (zdm r1 r2) fun r12=>.b (znA x.qj x.qi) fun r14=>.b (zlg r1.qr r1.major r1.kernel r1.room x.qj r1.qp r1.qq r1.qw) fun r15=>.b (zlh x.qi r2) fun r16=>.c (!r15.1) (.n) (.c (!r16.1) (.n) (.c (!((r12.2:Int)==r14.2)) (.n) (.c (!(true==r14.1.isNone)) (.n) (.c r14.1.isNone (.n) (.b (zf3 x.qj x.qo) fun r18=>.c (!((r18.2.1:Int)==0)) (.b (zf3 x.qj []) fun r20=>.j (.l33 r20 r14 none)) (.j (.l33 r18 r14 none))))))))
def zEc(x:zp):L8->Option R8:=zal (zG3 x)
theorem zEd(x:zp)(l:L8):zEc x l=(zG3 x l).run (zEc x):=zE _ l
def zrg(x:zp):Option R8:=(zHy x).run (zEc x)
theorem oks8(x:zp):Oks 8 [.agg (Ty.enc .sBulkheadlaw25Start x)] [] (zrg x) to8:=zL GC9 (H:=H8) zJ Tryz.func8 rfl (by kernel_rfl) (st8 x) (fun J l=>by cases l <;> kernel_rfl) (fun J=>by kernel_rfl)
abbrev zit:=zS × Bool
def zCw(r:zit):Ans:=⟨.tup [.ref 0 0,(avB r.2)],[.cells 45 [(zg r.1.c.qr),(zg r.1.c.major),(zg r.1.c.kernel),(zg r.1.c.room),.sl (.sl .sWindow) r.1.c.qp,.sl .sPartition r.1.c.qq,.sl .sChannel r.1.c.qw,.v (.pointer none),.op .sBulkheadref25Calls r.1.r,.v (.pointer none),.v (.pointer none),.v (.pointer none),.v (.pointer none),.sl .sBulkheadlaw25KeptInts r.1.kept.ints]]⟩
inductive ziq where | l33 (v0:R30) (v1:R27) (x0:Option zr)
def zCU:zab:=⟨fun n=>[16].any (Nat.beq n),zfi [(33,⟨fgt [4,11] 154 0,[(.box 4 7,.op .sCallsCalls)]⟩)],[(.box 0 7,.nilp),(.box 0 9,.nilp),(.box 0 10,.nilp),(.box 0 11,.nilp),(.box 0 12,.nilp),(.box 0 13,.sl .sBulkheadlaw25KeptInts)],G0,(fun e=>match e with | 72=>[(6,138),(7,74)] | 85=>[(2,46)] | 136=>[(0,135)] | 140=>[(4,3)] | 189=>[(4,209)] | 195=>[(0,46)] | 219=>[(4,3)] | _=>[])⟩
def zCg(x:zp):ziq->Nat × St | .l33 v0 v1 x0=>(33,⟨mkE [(4,.ref 0 0),(11,.sl (.i .u32) v0.1)] 154 0,[.cells 45 [(zg x.qj.qr),(zg x.qj.major),(zg x.qj.kernel),(zg x.qj.room),.sl (.sl .sWindow) x.qj.qp,.sl .sPartition x.qj.qq,.sl .sChannel x.qj.qw,.op .sCallsCalls x0,.op .sBulkheadref25Calls v1.1,.v (.pointer none),.v (.pointer none),.v (.pointer none),.v (.pointer none),.v (.slice none 0 0)]],GL,0,[],(fun e=>match e with | 72=>[(6,138),(7,74)] | 85=>[(2,46)] | 136=>[(0,135)] | 140=>[(4,3)] | 189=>[(4,209)] | 195=>[(0,46)] | 219=>[(4,3)] | _=>[])⟩)
def zxt(x:zp):ziq->Tree ziq zit | .l33 v0 v1 x0=>.b (zli v0.1) fun r21=>.b (znB v0.1) fun r23=>.b (zli v0.1) fun _=>.b (znB v0.1) fun _=>.g ((r21.2:Int)==0) <| .g ((r23.2:Int)==0) <| .n
def zov(x:zp):Tree ziq zit:=.b (ztc x.qj) fun r1=>.b (ztd x.qi) fun r2=>.o (zjt r1 r2) (fun r3=>.b (znA x.qj x.qi) fun r5=>.b (zlg r1.qr r1.major r1.kernel r1.room x.qj r1.qp r1.qq r1.qw) fun r6=>.b (zlh x.qi r2) fun r7=>.c (!r6.1) (.n) (.c (!r7.1) (.n) (.c (!((r3.2:Int)==r5.2)) (.n) (.c (!(false==r5.1.isNone)) (.n) (.c r5.1.isNone (.n) (.b (zf3 x.qj x.qo) fun r9=>.c (!((r9.2.1:Int)==0)) (.b (zf3 x.qj []) fun r11=>.j (.l33 r11 r5 (some (⟨r3.1.qr,r3.1.lay,(some (r3.1.qg.getD default)),(some (r3.1.qf.getD default)),(some (r3.1.qh.getD default))⟩:zr)))) (.j (.l33 r9 r5 (some (⟨r3.1.qr,r3.1.lay,(some (r3.1.qg.getD default)),(some (r3.1.qf.getD default)),(some (r3.1.qh.getD default))⟩:zr)))))))))) (.b (zdm r1 r2) fun r12=>.b (znA x.qj x.qi) fun r14=>.b (zlg r1.qr r1.major r1.kernel r1.room x.qj r1.qp r1.qq r1.qw) fun r15=>.b (zlh x.qi r2) fun r16=>.c (!r15.1) (.r ((⟨x.qj,none,r14.1,none,none,none,none,(⟨[]⟩:zav)⟩:zS),false)) (.c (!r16.1) (.r ((⟨x.qj,none,r14.1,none,none,none,none,(⟨[]⟩:zav)⟩:zS),false)) (.c (!((r12.2:Int)==r14.2)) (.r ((⟨x.qj,none,r14.1,none,none,none,none,(⟨[]⟩:zav)⟩:zS),false)) (.c (!(true==r14.1.isNone)) (.r ((⟨x.qj,none,r14.1,none,none,none,none,(⟨[]⟩:zav)⟩:zS),false)) (.c r14.1.isNone (.r ((⟨x.qj,none,r14.1,none,none,none,none,(⟨[]⟩:zav)⟩:zS),true)) (.b (zf3 x.qj x.qo) fun r18=>.c (!((r18.2.1:Int)==0)) (.b (zf3 x.qj []) fun r20=>.j (.l33 r20 r14 none)) (.j (.l33 r18 r14 none))))))))
def zyh(x:zp):ziq->Option zit:=zal (zxt x)
def zeg(x:zp):Option zit:=(zov x).run (zyh x)
theorem zxV(x:zp):Oks 8 [.agg (Ty.enc .sBulkheadlaw25Start x)] [] (zeg x) zCw:=zL GC9 (H:=zCU) zJ Tryz.func8 rfl (by kernel_rfl) (zCg x) (fun J l=>by cases l <;> kernel_rfl) (fun J=>by kernel_rfl)
def k8:Fk 8:=aF (aS .sBulkheadlaw25Start fun a0=>aE (oks8 a0))
def zDF:Fk 8:=aF (aS .sBulkheadlaw25Start fun a0=>aE (zxV a0))
def GC10:GK:=zDz [⟨8,zDF⟩] (zhZ [⟨8,k8⟩] GC9)
abbrev R6:=Bool
def to6(r:R6):Ans:=⟨(avB r),[]⟩
inductive L6 where | l11 (v0:R12) (v1:R8) | l13 (v0:R12) (v1:R12) (v2:R8) | l15 (v0:R12) (v1:R12) (v2:R9) (v3:R8) | l17 (v0:R12) (v1:R12) (v2:R9) (v3:R12) (v4:R8) | l19 (v0:R12) (v1:R12) (v2:R9) (v3:R12) (v4:R12) (v5:R8) | l23 (v0:R12) (v1:R12) (v2:R9) (v3:R12) (v4:R12) (v5:R21) (v6:R21) (v7:R8) | l25 (v0:R12) (v1:R12) (v2:R9) (v3:R12) (v4:R12) (v5:R21) (v6:R21) (v7:R22) | l29 (v0:R12) (v1:R21) (v2:R21) (v3:R22) (v4:R12) (v5:R12) (v6:R12)
def H6:zab:=htt [5,6,7,8,9,11,12,14] [(11,⟨fgt [1,3,6] 241 0,[]⟩),(13,⟨fgt [1,3,6,7,10] 241 0,[]⟩),(15,⟨fgt [1,3,6,7,10,11] 241 0,[]⟩),(17,⟨fgt [1,3,6,7,10,11,12,15] 241 0,[]⟩),(19,⟨fgt [1,3,6,7,10,11,12,15,16,17,18,19] 241 0,[]⟩),(23,⟨fgt [1,3,6,7,10,11,12,15,16,17,18,19,20,21,22,23] 241 0,[]⟩),(25,⟨fgt [3,6,7,10,11,12,15,16,17,18,19,20,21,22,23,24,25] 241 0,[]⟩),(29,⟨fgt [3,7,12,16,17,18,20,22,24] 241 0,[]⟩)] []
def st6:L6->Nat × St | .l11 v0 v1=>(11,⟨mkE [(1,.ref 0 0),(3,.ref 3 0),(6,(zg v0.2.2.2.1))] 241 0,[.cells 45 [(zg v1.1.c.qr),(zg v1.1.c.major),(zg v1.1.c.kernel),(zg v1.1.c.room),.sl (.sl .sWindow) v1.1.c.qp,.sl .sPartition v1.1.c.qq,.sl .sChannel v1.1.c.qw,.op .sCallsCalls v1.1.s,.op .sBulkheadref25Calls v1.1.r,.ref 1 0,.op .sBulkheadref05Memory v1.1.n,.op .sMemMemory v1.1.p,.op .sBulkheadref05Memory v1.1.q,.sl .sBulkheadlaw25KeptInts v1.1.kept.ints],.cells 112 [.own 2],.arr 46 (.i .u32) v0.2.2.2.2.qx,.cells 57 (Ty.enc .sContext v0.1)],GL,0,[],zN⟩) | .l13 v0 v1 v2=>(13,⟨mkE [(1,.ref 0 0),(3,.ref 3 0),(6,(zg v0.2.2.2.1)),(7,.ref 4 0),(10,(zg v1.2.2.2.1))] 241 0,[.cells 45 [(zg v2.1.c.qr),(zg v2.1.c.major),(zg v2.1.c.kernel),(zg v2.1.c.room),.sl (.sl .sWindow) v2.1.c.qp,.sl .sPartition v2.1.c.qq,.sl .sChannel v2.1.c.qw,.op .sCallsCalls v2.1.s,.op .sBulkheadref25Calls v2.1.r,.ref 1 0,.op .sBulkheadref05Memory v2.1.n,.op .sMemMemory v2.1.p,.op .sBulkheadref05Memory v2.1.q,.sl .sBulkheadlaw25KeptInts v2.1.kept.ints],.cells 112 [.own 2],.arr 46 (.i .u32) v1.2.2.2.2.qx,.cells 57 (Ty.enc .sContext v0.1),.cells 57 (Ty.enc .sContext v1.1)],GL,0,[],zN⟩) | .l15 v0 v1 v2 v3=>(15,⟨mkE [(1,.ref 0 0),(3,.ref 3 0),(6,(zg v0.2.2.2.1)),(7,.ref 4 0),(10,(zg v1.2.2.2.1)),(11,(zg v2.1))] 241 0,[.cells 45 [(zg v3.1.c.qr),(zg v3.1.c.major),(zg v3.1.c.kernel),(zg v3.1.c.room),.sl (.sl .sWindow) v3.1.c.qp,.sl .sPartition v3.1.c.qq,.sl .sChannel v3.1.c.qw,.op .sCallsCalls v3.1.s,.op .sBulkheadref25Calls v3.1.r,.ref 1 0,.op .sBulkheadref05Memory v3.1.n,.op .sMemMemory v3.1.p,.op .sBulkheadref05Memory v3.1.q,.sl .sBulkheadlaw25KeptInts v3.1.kept.ints],.cells 112 [.own 2],.arr 46 (.i .u32) v2.2.qx,.cells 57 (Ty.enc .sContext v0.1),.cells 57 (Ty.enc .sContext v1.1)],GL,0,[],zN⟩) | .l17 v0 v1 v2 v3 v4=>(17,⟨mkE [(1,.ref 0 0),(3,.ref 3 0),(6,(zg v0.2.2.2.1)),(7,.ref 4 0),(10,(zg v1.2.2.2.1)),(11,(zg v2.1)),(12,.ref 5 0),(15,(zg v3.2.2.2.1))] 241 0,[.cells 45 [(zg v4.1.c.qr),(zg v4.1.c.major),(zg v4.1.c.kernel),(zg v4.1.c.room),.sl (.sl .sWindow) v4.1.c.qp,.sl .sPartition v4.1.c.qq,.sl .sChannel v4.1.c.qw,.op .sCallsCalls v4.1.s,.op .sBulkheadref25Calls v4.1.r,.ref 1 0,.op .sBulkheadref05Memory v4.1.n,.op .sMemMemory v4.1.p,.op .sBulkheadref05Memory v4.1.q,.sl .sBulkheadlaw25KeptInts v4.1.kept.ints],.cells 112 [.own 2],.arr 46 (.i .u32) v3.2.2.2.2.qx,.cells 57 (Ty.enc .sContext v0.1),.cells 57 (Ty.enc .sContext v1.1),.cells 57 (Ty.enc .sContext v3.1)],GL,0,[],zN⟩) | .l19 v0 v1 v2 v3 v4 v5=>(19,⟨mkE [(1,.ref 0 0),(3,.ref 3 0),(6,(zg v0.2.2.2.1)),(7,.ref 4 0),(10,(zg v1.2.2.2.1)),(11,(zg v2.1)),(12,.ref 5 0),(15,(zg v3.2.2.2.1)),(16,.ref 6 0),(17,(zu v4.2.1)),(18,(avB v4.2.2.1)),(19,(zg v4.2.2.2.1))] 241 0,[.cells 45 [(zg v5.1.c.qr),(zg v5.1.c.major),(zg v5.1.c.kernel),(zg v5.1.c.room),.sl (.sl .sWindow) v5.1.c.qp,.sl .sPartition v5.1.c.qq,.sl .sChannel v5.1.c.qw,.op .sCallsCalls v5.1.s,.op .sBulkheadref25Calls v5.1.r,.ref 1 0,.op .sBulkheadref05Memory v5.1.n,.op .sMemMemory v5.1.p,.op .sBulkheadref05Memory v5.1.q,.sl .sBulkheadlaw25KeptInts v5.1.kept.ints],.cells 112 [.own 2],.arr 46 (.i .u32) v4.2.2.2.2.qx,.cells 57 (Ty.enc .sContext v0.1),.cells 57 (Ty.enc .sContext v1.1),.cells 57 (Ty.enc .sContext v3.1),.cells 57 (Ty.enc .sContext v4.1)],GL,0,[],zN⟩) | .l23 v0 v1 v2 v3 v4 v5 v6 v7=>(23,⟨mkE [(1,.ref 0 0),(3,.ref 3 0),(6,(zg v0.2.2.2.1)),(7,.ref 4 0),(10,(zg v1.2.2.2.1)),(11,(zg v2.1)),(12,.ref 5 0),(15,(zg v3.2.2.2.1)),(16,.ref 6 0),(17,(zu v4.2.1)),(18,(avB v4.2.2.1)),(19,(zg v4.2.2.2.1)),(20,(zu v5.1)),(21,(zg v5.2)),(22,(zu v6.1)),(23,(zg v6.2))] 241 0,[.cells 45 [(zg v7.1.c.qr),(zg v7.1.c.major),(zg v7.1.c.kernel),(zg v7.1.c.room),.sl (.sl .sWindow) v7.1.c.qp,.sl .sPartition v7.1.c.qq,.sl .sChannel v7.1.c.qw,.op .sCallsCalls v7.1.s,.op .sBulkheadref25Calls v7.1.r,.ref 1 0,.op .sBulkheadref05Memory v7.1.n,.op .sMemMemory v7.1.p,.op .sBulkheadref05Memory v7.1.q,.sl .sBulkheadlaw25KeptInts v7.1.kept.ints],.cells 112 [.own 2],.arr 46 (.i .u32) v4.2.2.2.2.qx,.cells 57 (Ty.enc .sContext v0.1),.cells 57 (Ty.enc .sContext v1.1),.cells 57 (Ty.enc .sContext v3.1),.cells 57 (Ty.enc .sContext v4.1)],GL,0,[],zN⟩) | .l25 v0 v1 v2 v3 v4 v5 v6 v7=>(25,⟨mkE [(3,.ref 0 0),(6,(zg v0.2.2.2.1)),(7,.ref 1 0),(10,(zg v1.2.2.2.1)),(11,(zg v2.1)),(12,.ref 2 0),(15,(zg v3.2.2.2.1)),(16,.ref 3 0),(17,(zu v4.2.1)),(18,(avB v4.2.2.1)),(19,(zg v4.2.2.2.1)),(20,(zu v5.1)),(21,(zg v5.2)),(22,(zu v6.1)),(23,(zg v6.2)),(24,.sl (.i .i64) v7.1),(25,(zg v7.2))] 241 0,[.cells 57 (Ty.enc .sContext v0.1),.cells 57 (Ty.enc .sContext v1.1),.cells 57 (Ty.enc .sContext v3.1),.cells 57 (Ty.enc .sContext v4.1)],GL,0,[],zN⟩) | .l29 v0 v1 v2 v3 v4 v5 v6=>(29,⟨mkE [(3,.ref 0 0),(7,.ref 1 0),(12,.ref 2 0),(16,.ref 3 0),(17,(zu v0.2.1)),(18,(avB v0.2.2.1)),(20,(zu v1.1)),(22,(zu v2.1)),(24,.sl (.i .i64) v3.1)] 241 0,[.cells 57 (Ty.enc .sContext v4.1),.cells 57 (Ty.enc .sContext v5.1),.cells 57 (Ty.enc .sContext v6.1),.cells 57 (Ty.enc .sContext v0.1)],GL,0,[],zN⟩)
def zgb:L6->Tree L6 R6 | .l11 v0 v1=>.b (zf2 (⟨0,0,0,0,0,0,4,2,0,[]⟩:zq)) fun r9=>.b (zeB v1.1.s 0 0 1 r9 v0.2.2.2.2.qx) fun r10=>.j (.l13 v0 r10 v1) | .l13 v0 v1 v2=>.b (ztq v2.1.s v1.2.2.2.2.qx) fun r11=>.j (.l15 v0 v1 r11 v2) | .l15 v0 v1 v2 v3=>.b (zf2 (⟨0,0,0,0,0,0,9,0,0,[]⟩:zq)) fun r12=>.b (zeB v3.1.s 2 1 2 r12 v2.2.qx) fun r13=>.j (.l17 v0 v1 v2 r13 v3) | .l17 v0 v1 v2 v3 v4=>.b (zf2 (⟨0,0,0,0,0,88,0,0,0,[]⟩:zq)) fun r14=>.b (zeB v4.1.s 0 2 5 r14 v3.2.2.2.2.qx) fun r15=>.j (.l19 v0 v1 v2 v3 r15 v4) | .l19 v0 v1 v2 v3 v4 v5=>.b (zeE (some v4.2.2.2.2) 41) fun r16=>.b (zeE (some v4.2.2.2.2) 42) fun r17=>.j (.l23 v0 v1 v2 v3 v4 r16 r17 v5) | .l23 v0 v1 v2 v3 v4 v5 v6 v7=>.b (zf2 (⟨0,0,0,0,0,1,0,0,0,[]⟩:zq)) fun r18=>.b (zwe v7.1.s 0 1 r18) fun r20=>.j (.l25 v0 v1 v2 v3 v4 v5 v6 r20) | .l25 v0 v1 v2 v3 v4 v5 v6 v7=>.c (!((v0.2.2.2.1:Int)==0)) (.r false) (.c (!((v1.2.2.2.1:Int)==0)) (.r false) (.c (!((v2.1:Int)==0)) (.r false) (.c (!((v3.2.2.2.1:Int)==0)) (.r false) (.c (!((v4.2.2.2.1:Int)==0)) (.r false) (.c (!((v5.2:Int)==0)) (.r false) (.c (!((v6.2:Int)==0)) (.r false) (.c (!((v7.2:Int)==0)) (.r false) (.j (.l29 v4 v5 v6 v7 v0 v1 v3))))))))) | .l29 v0 v1 v2 v3 v4 v5 v6 =>let y1:=zO 1 16;.g y1 <| .c ((v4.1.qz.e1:Int)==0) (.g (zO 2 16) <| .c ((v4.1.qz.e2:Int)==77) (.g y1 <| .c ((v5.1.qz.e1:Int)==0) (.g y1 <| .c ((v6.1.qz.e1:Int)==0) (.g (zO 2 16) <| .c ((v6.1.qz.e2:Int)==2) (.g (zO 3 16) <| .c ((v6.1.qz.e3:Int)==1) (.g y1 <| .c ((v0.1.qz.e1:Int)==0) (.c ((v0.2.1:Int)==88) (.c v0.2.2.1 (.c ((v1.1:Int)==7) (.c ((v2.1:Int)==8) (.c ((v3.1.length:Int)==2) (.g (zO 0 v3.1.length) <| .c ((zt v3.1 0:Int)==50) (.g (zO 1 v3.1.length) <| .r ((zt v3.1 1:Int)==138)) (.r false)) (.r false)) (.r false)) (.r false)) (.r false)) (.r false)) (.r false)) (.r false)) (.r false)) (.r false)) (.r false)) (.r false)) (.r false)
def zHx:Tree L6 R6:=.o (zrg zB0) (fun r3=>.c (!r3.2) (.r false) (.c r3.1.s.isNone (.r false) (.b (zf2 (⟨0,0,0,0,0,0,0,0,0,[]⟩:zq)) fun r4=>.b (zeB r3.1.s 0 3 4 r4 ((r3.1.m.getD default).qx)) fun r5=>.j (.l11 r5 r3)))) (.b (zeg zB0) fun r8=>.c (!r8.2) (.r false) (.r false))
def zJX:L6->Option R6:=zal (zgb)
theorem zeP(l:L6):zJX l=(zgb l).run (zJX):=zE _ l
def zB8:Option R6:=(zHx).run (zJX)
theorem zHF(J:Jmp)(v0:R12)(v1:R8):stepAt Pr GC10.G H6 J (st6 (.l11 v0 v1)).1 0 (zc9 Tryz.f6) (fin Pr H6 Tryz.f6) (st6 (.l11 v0 v1)).2=(zgb (.l11 v0 v1)).runA to6 fun l=>J (st6 l).1 (st6 l).2:=by kernel_rfl
theorem zHG(J:Jmp)(v0:R12)(v1:R12)(v2:R8):stepAt Pr GC10.G H6 J (st6 (.l13 v0 v1 v2)).1 0 (zc9 Tryz.f6) (fin Pr H6 Tryz.f6) (st6 (.l13 v0 v1 v2)).2=(zgb (.l13 v0 v1 v2)).runA to6 fun l=>J (st6 l).1 (st6 l).2:=by kernel_rfl
theorem zHH(J:Jmp)(v0:R12)(v1:R12)(v2:R9)(v3:R8):stepAt Pr GC10.G H6 J (st6 (.l15 v0 v1 v2 v3)).1 0 (zc9 Tryz.f6) (fin Pr H6 Tryz.f6) (st6 (.l15 v0 v1 v2 v3)).2=(zgb (.l15 v0 v1 v2 v3)).runA to6 fun l=>J (st6 l).1 (st6 l).2:=by kernel_rfl
theorem zHI(J:Jmp)(v0:R12)(v1:R12)(v2:R9)(v3:R12)(v4:R8):stepAt Pr GC10.G H6 J (st6 (.l17 v0 v1 v2 v3 v4)).1 0 (zc9 Tryz.f6) (fin Pr H6 Tryz.f6) (st6 (.l17 v0 v1 v2 v3 v4)).2=(zgb (.l17 v0 v1 v2 v3 v4)).runA to6 fun l=>J (st6 l).1 (st6 l).2:=by kernel_rfl
theorem zHJ(J:Jmp)(v0:R12)(v1:R12)(v2:R9)(v3:R12)(v4:R12)(v5:R8):stepAt Pr GC10.G H6 J (st6 (.l19 v0 v1 v2 v3 v4 v5)).1 0 (zc9 Tryz.f6) (fin Pr H6 Tryz.f6) (st6 (.l19 v0 v1 v2 v3 v4 v5)).2=(zgb (.l19 v0 v1 v2 v3 v4 v5)).runA to6 fun l=>J (st6 l).1 (st6 l).2:=by kernel_rfl
theorem zHK(J:Jmp)(v0:R12)(v1:R12)(v2:R9)(v3:R12)(v4:R12)(v5:R21)(v6:R21)(v7:R8):stepAt Pr GC10.G H6 J (st6 (.l23 v0 v1 v2 v3 v4 v5 v6 v7)).1 0 (zc9 Tryz.f6) (fin Pr H6 Tryz.f6) (st6 (.l23 v0 v1 v2 v3 v4 v5 v6 v7)).2=(zgb (.l23 v0 v1 v2 v3 v4 v5 v6 v7)).runA to6 fun l=>J (st6 l).1 (st6 l).2:=by kernel_rfl
theorem zHL(J:Jmp)(v0:R12)(v1:R12)(v2:R9)(v3:R12)(v4:R12)(v5:R21)(v6:R21)(v7:R22):stepAt Pr GC10.G H6 J (st6 (.l25 v0 v1 v2 v3 v4 v5 v6 v7)).1 0 (zc9 Tryz.f6) (fin Pr H6 Tryz.f6) (st6 (.l25 v0 v1 v2 v3 v4 v5 v6 v7)).2=(zgb (.l25 v0 v1 v2 v3 v4 v5 v6 v7)).runA to6 fun l=>J (st6 l).1 (st6 l).2:=by kernel_rfl
theorem zHM(J:Jmp)(v0:R12)(v1:R21)(v2:R21)(v3:R22)(v4:R12)(v5:R12)(v6:R12):stepAt Pr GC10.G H6 J (st6 (.l29 v0 v1 v2 v3 v4 v5 v6)).1 0 (zc9 Tryz.f6) (fin Pr H6 Tryz.f6) (st6 (.l29 v0 v1 v2 v3 v4 v5 v6)).2=(zgb (.l29 v0 v1 v2 v3 v4 v5 v6)).runA to6 fun l=>J (st6 l).1 (st6 l).2:=by kernel_rfl
theorem ru6(J:Jmp):zx8 Pr GC10.G H6 J GL Tryz.f6 [] []=(zHx).runA to6 fun l=>J (st6 l).1 (st6 l).2:=by kernel_rfl
theorem oks6:Oks 6 [] [] (zB8) to6:=zL GC10 (H:=H6) zJ Tryz.func6 rfl (by kernel_rfl) (st6) (fun J l=>match l with | .l11 v0 v1=>zHF J v0 v1 | .l13 v0 v1 v2=>zHG J v0 v1 v2 | .l15 v0 v1 v2 v3=>zHH J v0 v1 v2 v3 | .l17 v0 v1 v2 v3 v4=>zHI J v0 v1 v2 v3 v4 | .l19 v0 v1 v2 v3 v4 v5=>zHJ J v0 v1 v2 v3 v4 v5 | .l23 v0 v1 v2 v3 v4 v5 v6 v7=>zHK J v0 v1 v2 v3 v4 v5 v6 v7 | .l25 v0 v1 v2 v3 v4 v5 v6 v7=>zHL J v0 v1 v2 v3 v4 v5 v6 v7 | .l29 v0 v1 v2 v3 v4 v5 v6=>zHM J v0 v1 v2 v3 v4 v5 v6) (ru6)
def k6:Fk 6:=aF (aE (oks6))
def GC11:GK:=zhZ [⟨6,k6⟩] GC10
abbrev R3:=Bool
def to3(r:R3):Ans:=⟨(avB r),[]⟩
inductive L3 where | l0 (v0:R8) (x0:Int) (x1:List Int)
def H3:zab:=htt [] [(0,⟨fgt [1,5,7] 182 0,[]⟩)] []
def st3(x:zp)(script:(List zq)):L3->Nat × St | .l0 v0 x0 x1=>(0,⟨mkE [(1,.sl .sBulkheadlaw25Op script),(5,.ref 0 0),(7,(zg x0))] 182 0,[.cells 45 [(zg v0.1.c.qr),(zg v0.1.c.major),(zg v0.1.c.kernel),(zg v0.1.c.room),.sl (.sl .sWindow) v0.1.c.qp,.sl .sPartition v0.1.c.qq,.sl .sChannel v0.1.c.qw,.op .sCallsCalls v0.1.s,.op .sBulkheadref25Calls v0.1.r,.ref 1 0,.op .sBulkheadref05Memory v0.1.n,.op .sMemMemory v0.1.p,.op .sBulkheadref05Memory v0.1.q,.sl .sBulkheadlaw25KeptInts v0.1.kept.ints],.cells 112 [.own 2],.arr 46 (.i .u32) x1],GL,0,[],zN⟩)
def bod3(x:zp)(script:(List zq)):L3->Tree L3 R3 | .l0 v0 x0 x1 =>let y1:=zh script x0.toNat;let y2:=i64.wrap (x0+1);let y3:=zO 1 16;.c (decide (x0<script.length)) (.g (zO x0 script.length) <| .c ((y1.kind:Int)==4) (.b (ztq v0.1.s x1) fun r7=>.c (!((r7.1:Int)==0)) (.r false) (.j (.l0 v0 y2 r7.2.qx))) (.b (zf1 (y1.p) v0.1.c.qq.length) fun r8=>.b (zf1 (y1.call) 8) fun r9=>.b (zf1 (y1.qu) 1073741824) fun r10=>.b (zjs (some (⟨x1⟩:ze))) fun r11=>.b (zf2 (⟨y1.kind,r8,r10,r9,y1.a,y1.r1,y1.r2,y1.r3,y1.w,y1.list⟩:zq)) fun r12=>.b (zeB v0.1.s r8 r10 r9 r12 x1) fun r13=>.c (!((r13.2.2.2.1:Int)==0)) (.r false) (.b (zjs (some r13.2.2.2.2)) fun r14=>.b (zf2 (⟨y1.kind,r8,r10,r9,y1.a,y1.r1,y1.r2,y1.r3,y1.w,y1.list⟩:zq)) fun r15=>.g y3 <| .g y3 <| .g (zO 2 16) <| .g (zO 2 16) <| .g (zO 3 16) <| .g (zO 3 16) <| .c ((r9:Int)==5) (.g y3 <| .c (!((((r13.1.qz.e0:Int)==r15.qz.e0)&&(((r13.1.qz.e1:Int)==r13.1.qz.e1)&&(((r13.1.qz.e2:Int)==r13.1.qz.e2)&&(((r13.1.qz.e3:Int)==r13.1.qz.e3)&&(((r13.1.qz.e4:Int)==r15.qz.e4)&&(((r13.1.qz.e5:Int)==r15.qz.e5)&&(((r13.1.qz.e6:Int)==r15.qz.e6)&&(((r13.1.qz.e7:Int)==r15.qz.e7)&&(((r13.1.qz.e8:Int)==r15.qz.e8)&&(((r13.1.qz.e9:Int)==r15.qz.e9)&&(((r13.1.qz.e10:Int)==r15.qz.e10)&&(((r13.1.qz.e11:Int)==r15.qz.e11)&&(((r13.1.qz.e12:Int)==r15.qz.e12)&&(((r13.1.qz.e13:Int)==r15.qz.e13)&&(((r13.1.qz.e14:Int)==r15.qz.e14)&&(((r13.1.qz.e15:Int)==r15.qz.e15)&&true))))))))))))))))&&(((r13.1.pC:Int)==r15.pC)&&true))) (.r false) (.g y3 <| .c (decide ((r13.1.qz.e1:Int)>7)) (.r false) (.c (!(r13.2.2.1==((r13.1.qz.e1:Int)==0))) (.r false) (.c ((r13.1.qz.e1:Int)==0) (.c (!((r13.2.1:Int)==y1.r1)) (.r false) (.c (!((r13.1.qz.e1:Int)==0)) (.c (!((r13.2.1:Int)==0)) (.r false) (.g y3 <| .b (zpu v0.1.c (⟨y1.kind,r8,r10,r9,y1.a,y1.r1,y1.r2,y1.r3,y1.w,y1.list⟩:zq) r13.1.qz.e1 r11 r14) fun r16=>.c (!r16) (.r false) (.j (.l0 v0 y2 r13.2.2.2.2.qx)))) (.g y3 <| .b (zpu v0.1.c (⟨y1.kind,r8,r10,r9,y1.a,y1.r1,y1.r2,y1.r3,y1.w,y1.list⟩:zq) r13.1.qz.e1 r11 r14) fun r17=>.c (!r17) (.r false) (.j (.l0 v0 y2 r13.2.2.2.2.qx))))) (.c (!((r13.1.qz.e1:Int)==0)) (.c (!((r13.2.1:Int)==0)) (.r false) (.g y3 <| .b (zpu v0.1.c (⟨y1.kind,r8,r10,r9,y1.a,y1.r1,y1.r2,y1.r3,y1.w,y1.list⟩:zq) r13.1.qz.e1 r11 r14) fun r18=>.c (!r18) (.r false) (.j (.l0 v0 y2 r13.2.2.2.2.qx)))) (.g y3 <| .b (zpu v0.1.c (⟨y1.kind,r8,r10,r9,y1.a,y1.r1,y1.r2,y1.r3,y1.w,y1.list⟩:zq) r13.1.qz.e1 r11 r14) fun r19=>.c (!r19) (.r false) (.j (.l0 v0 y2 r13.2.2.2.2.qx)))))))) (.c (!((((r13.1.qz.e0:Int)==r15.qz.e0)&&(((r13.1.qz.e1:Int)==r13.1.qz.e1)&&(((r13.1.qz.e2:Int)==r13.1.qz.e2)&&(((r13.1.qz.e3:Int)==r13.1.qz.e3)&&(((r13.1.qz.e4:Int)==r15.qz.e4)&&(((r13.1.qz.e5:Int)==r15.qz.e5)&&(((r13.1.qz.e6:Int)==r15.qz.e6)&&(((r13.1.qz.e7:Int)==r15.qz.e7)&&(((r13.1.qz.e8:Int)==r15.qz.e8)&&(((r13.1.qz.e9:Int)==r15.qz.e9)&&(((r13.1.qz.e10:Int)==r15.qz.e10)&&(((r13.1.qz.e11:Int)==r15.qz.e11)&&(((r13.1.qz.e12:Int)==r15.qz.e12)&&(((r13.1.qz.e13:Int)==r15.qz.e13)&&(((r13.1.qz.e14:Int)==r15.qz.e14)&&(((r13.1.qz.e15:Int)==r15.qz.e15)&&true))))))))))))))))&&(((r13.1.pC:Int)==r15.pC)&&true))) (.r false) (.g y3 <| .c (decide ((r13.1.qz.e1:Int)>7)) (.r false) (.c (!(r13.2.2.1==false)) (.r false) (.c (!((r13.2.1:Int)==0)) (.r false) (.g y3 <| .b (zpu v0.1.c (⟨y1.kind,r8,r10,r9,y1.a,y1.r1,y1.r2,y1.r3,y1.w,y1.list⟩:zq) r13.1.qz.e1 r11 r14) fun r20=>.c (!r20) (.r false) (.j (.l0 v0 y2 r13.2.2.2.2.qx)))))))))) (.r true)
def ent3(x:zp)(script:(List zq)):Tree L3 R3:=.b (zB8) fun r1=>.c (!r1) (.r false) (.b (zB9 x) fun r2=>.c r2 (.r true) (.o (zrg x) (fun r4=>.c (!r4.2) (.r r4.2) (.c r4.1.s.isNone (.r r4.2) (.j (.l0 r4 0 ((r4.1.m.getD default).qx))))) (.b (zeg x) fun r6=>.c (!r6.2) (.r r6.2) (.r r6.2))))
def spL3(x:zp)(script:(List zq)):L3->Option R3:=zal (bod3 x script)
def spO3(x:zp)(script:(List zq)):Option R3:=(ent3 x script).run (spL3 x script)
theorem oks3(x:zp)(script:(List zq)):Oks 3 [.agg (Ty.enc .sBulkheadlaw25Start x),.sl .sBulkheadlaw25Op script] [] (spO3 x script) to3:=zL GC11 (H:=H3) zJ Tryz.func3 rfl (by kernel_rfl) (st3 x script) (fun J l=>by cases l <;> kernel_rfl) (fun J=>by kernel_rfl)
def k3:Fk 3:=aF (aS .sBulkheadlaw25Start fun a0=>aL (.sl .sBulkheadlaw25Op) fun a1=>aE (oks3 a0 a1))
def zGh:GK:=zhZ [⟨3,k3⟩] GC11
end Go.Proofs.YtgajeebphoiphaaGreatDoor
end
