import Derived.Test.YtgajeebphoiphaaGreatDoorC2b
set_option linter.unusedVariables false
set_option linter.unusedSimpArgs false
noncomputable section
open Go.IntKind (i64 u32)
namespace Go.Proofs.YtgajeebphoiphaaGreatDoor
open Go.RowKit
abbrev zyr:=zx
def zO6(r:zyr):Ans:=⟨.agg [(zg r.e),(zg r.where_.first),(zg r.where_.second)],[]⟩
inductive zwn where | l0 (x0:Int) (x1:Int) (x2:Int) (x3:Int) | l4 (x0:Int) (x1:Int) (x2:Int) (x3:Int)
def H121:zaa:=htt [] [(0,⟨fgt [1,2,4,5,6,7] 118 0,[]⟩),(4,⟨fgt [1,2,4,5,6,8] 118 0,[]⟩)] []
def zOi(c:za)(p:Int):zwn->Nat × St | .l0 x0 x1 x2 x3=>(0,⟨mkE [(1,(zg p)),(2,.ref 0 0),(4,.ref 1 0),(5,.ref 2 0),(6,.ref 3 0),(7,(zg x0))] 118 0,[.cells 26 (Ty.enc .sConfig c),.cells 194 [(zg 0),(zg 0),(zg 0)],.cells 72 (Ty.enc .sPartition (zb c.partitions p.toNat)),.cells 194 [(zg x1),(zg x2),(zg x3)]],GL,0,[],zO⟩) | .l4 x0 x1 x2 x3=>(4,⟨mkE [(1,(zg p)),(2,.ref 0 0),(4,.ref 1 0),(5,.ref 2 0),(6,.ref 3 0),(8,(zg x0))] 118 0,[.cells 26 (Ty.enc .sConfig c),.cells 194 [(zg 0),(zg 0),(zg 0)],.cells 72 (Ty.enc .sPartition (zb c.partitions p.toNat)),.cells 194 [(zg x1),(zg x2),(zg x3)]],GL,0,[],zO⟩)
def zf1(c:za)(p:Int):zwn->Tree zwn zyr | .l0 x0 x1 x2 x3 =>let y2:=(x1==fine.e)&&(((x2==fine.where_.first)&&((x3==fine.where_.second)&&true))&&true);let y3:=zb c.partitions p.toNat;let y4:=(⟨x1,(⟨x2,x3⟩:zaY)⟩:zx);let y6:=zaZ (y3.entry) 0 4095;let y7:=za2 p;let y1:=(zag (decide (((y3.ports).length:Int)<=8)) 413 y7);let y5:=zbv [(zag false 412 y7),y1];.c (decide (x0<(y3.regions).length)) (.c y2 (.b (zqO c p x0) fun r6=>.j (.l0 (i64.wrap (x0+1)) r6.e r6.where_.first r6.where_.second)) (.c (!y2) (.r y4) (.c y6 (.b (znc y3) fun r7=>.b (zbv [(zag r7 412 y7),y1]) fun r8=>.j (.l4 0 r8.e r8.where_.first r8.where_.second)) (.b y5 fun r9=>.j (.l4 0 r9.e r9.where_.first r9.where_.second))))) (.c (!y2) (.r y4) (.c y6 (.b (znc y3) fun r10=>.b (zbv [(zag r10 412 y7),y1]) fun r11=>.j (.l4 0 r11.e r11.where_.first r11.where_.second)) (.b y5 fun r12=>.j (.l4 0 r12.e r12.where_.first r12.where_.second)))) | .l4 x0 x1 x2 x3 =>let y2:=(zb c.partitions p.toNat).ports;let y1:=zag (zaZ ((zbc y2 x0.toNat).channel) 0 (i64.wrap (c.channels.length-1))) 414 (zdG p x0);let y3:=(⟨x1,(⟨x2,x3⟩:zaY)⟩:zx);.c (decide (x0<y2.length)) (.c ((x1==fine.e)&&(((x2==fine.where_.first)&&((x3==fine.where_.second)&&true))&&true)) (.g (zN x0 y2.length) <| .j (.l4 (i64.wrap (x0+1)) (y1.e) (y1.where_.first) (y1.where_.second))) (.r y3)) (.r y3)
def zzB(c:za)(p:Int):Tree zwn zyr:=.g (zN p c.partitions.length) <| .b (znb c p) fun r1=>.c (zaZ ((zb c.partitions p.toNat).action) 0 2) (.c (zaZ ((zb c.partitions p.toNat).inputs) 0 16) (.b (zbv [(zag r1 405 (za2 p)),(zag (zaZ ((zb c.partitions p.toNat).restarts) 0 15) 406 (za2 p)),(zag (zaZ ((zb c.partitions p.toNat).outputs) 0 16) 407 (za2 p)),(zag (zaZ (((zb c.partitions p.toNat).regions).length) 1 8) 408 (za2 p))]) fun r2=>.j (.l0 0 r2.e r2.where_.first r2.where_.second)) (.b (zbv [(zag r1 405 (za2 p)),(zag (zaZ ((zb c.partitions p.toNat).restarts) 0 15) 406 (za2 p)),(zag false 407 (za2 p)),(zag (zaZ (((zb c.partitions p.toNat).regions).length) 1 8) 408 (za2 p))]) fun r3=>.j (.l0 0 r3.e r3.where_.first r3.where_.second))) (.c (zaZ ((zb c.partitions p.toNat).inputs) 0 16) (.b (zbv [(zag r1 405 (za2 p)),(zag false 406 (za2 p)),(zag (zaZ ((zb c.partitions p.toNat).outputs) 0 16) 407 (za2 p)),(zag (zaZ (((zb c.partitions p.toNat).regions).length) 1 8) 408 (za2 p))]) fun r4=>.j (.l0 0 r4.e r4.where_.first r4.where_.second)) (.b (zbv [(zag r1 405 (za2 p)),(zag false 406 (za2 p)),(zag false 407 (za2 p)),(zag (zaZ (((zb c.partitions p.toNat).regions).length) 1 8) 408 (za2 p))]) fun r5=>.j (.l0 0 r5.e r5.where_.first r5.where_.second)))
def zmP(c:za)(p:Int):zwn->Option zyr:=zan (zf1 c p)
theorem zec(c:za)(p:Int)(l:zwn):zmP c p l=(zf1 c p l).run (zmP c p):=zF _ l
def zqE(c:za)(p:Int):Option zyr:=(zzB c p).run (zmP c p)
theorem zHF(c:za)(p:Int):Oks 121 [.agg (Ty.enc .sConfig c),(zg p)] [] (zqE c p) zO6:=zM GC1 (H:=H121) zJ Tryz.func121 rfl (by kernel_rfl) (zOi c p) (fun J l=>by cases l <;> kernel_rfl) (fun J=>by kernel_rfl)
abbrev R70:=Bool
def to70(r:R70):Ans:=⟨(avB r),[]⟩
inductive L70 where | l0 (x0:Int) | l4 (x0:Int) | l8 (x0:Int) (x1:Int) (x2:Int) (x3:Int) (x4:Int)
def H70:zaa:=htt [] [(0,⟨fgt [1,31,32] 106 0,[]⟩),(4,⟨fgt [1,48,49] 106 0,[]⟩),(8,⟨fgt [1,4,6,7,48,49,72,73] 106 0,[]⟩)] []
def st70(c:za):L70->Nat × St | .l0 x0=>(0,⟨mkE [(1,.ref 0 0),(31,(zg c.partitions.length)),(32,(zg x0))] 106 0,[.cells 26 (Ty.enc .sConfig c)],GL,0,[],zO⟩) | .l4 x0=>(4,⟨mkE [(1,.ref 0 0),(48,(zg c.channels.length)),(49,(zg x0))] 106 0,[.cells 26 (Ty.enc .sConfig c)],GL,0,[],zO⟩) | .l8 x0 x1 x2 x3 x4=>(8,⟨mkE [(1,.ref 0 0),(4,(zg x0)),(6,(zg x1)),(7,(zg x2)),(48,(zg c.channels.length)),(49,(zg x3)),(72,(zg c.partitions.length)),(73,(zg x4))] 106 0,[.cells 26 (Ty.enc .sConfig c)],GL,0,[],zO⟩)
def zkF(c:za):L70->Tree L70 R70 | .l0 x0=>.c (decide (x0<c.partitions.length)) (.g (zN x0 c.partitions.length) <| .b (zm7 (zb c.partitions x0.toNat) c.channels.length) fun r1=>.c (!r1) (.r false) (.j (.l0 (i64.wrap (x0+1))))) (.j (.l4 0)) | .l4 x0 =>let y1:=zu c.channels x0.toNat;.c (decide (x0<c.channels.length)) (.g (zN x0 c.channels.length) <| .c (((zoT y1):Int)==0) (.r false) (.c ((y1.kind:Int)==1) (.c (!((y1.depth:Int)==0)) (.r false) (.j (.l8 x0 0 0 x0 0))) (.j (.l8 x0 0 0 x0 0)))) (.r true) | .l8 x0 x1 x2 x3 x4 =>let y1:=zb c.partitions x4.toNat;let y2:=zN x4 c.partitions.length;.c (decide (x4<c.partitions.length)) (.g y2 <| .b (zke y1 x0 true) fun r2=>.g y2 <| .b (zke y1 x0 false) fun r3=>.j (.l8 x0 (i64.wrap (x1+r2)) (i64.wrap (x2+r3)) x3 (i64.wrap (x4+1)))) (.c (!(x1==1)) (.r false) (.c (decide (x2<1)) (.r false) (.c (decide (x2>4)) (.r false) (.j (.l4 (i64.wrap (x3+1)))))))
def zEE(c:za):Tree L70 R70:=.c (decide ((c.kernel:Int)<0)) (.r false) (.c (decide ((c.kernel:Int)>=1024)) (.r false) (.c (decide ((c.partitions.length:Int)>8)) (.r false) (.c (decide ((c.channels.length:Int)>16)) (.r false) (.j (.l0 0)))))
def zk8(c:za):L70->Option R70:=zan (zkF c)
theorem zfj(c:za)(l:L70):zk8 c l=(zkF c l).run (zk8 c):=zF _ l
def znw(c:za):Option R70:=(zEE c).run (zk8 c)
theorem zNB(c:za):Oks 70 [.agg (Ty.enc .sConfig c)] [] (znw c) to70:=zM GC1 (H:=H70) zJ Tryz.func70 rfl (by kernel_rfl) (st70 c) (fun J l=>by cases l <;> kernel_rfl) (fun J=>by kernel_rfl)
abbrev zFW:=Int × Int × ze
def zFf(r:zFW):Ans:=⟨.tup [(zg r.1),(zg r.2.1)],[.cells 112 [.own 1],.arr 46 (.i .u32) r.2.2.words]⟩
def zm6(d:(Option zT))(p:Int)(ws:List Int):Option zFW:=Tree.run0 <|
 .b (zqN d (some (⟨ws⟩:ze)) [p]) fun r1=>
 .c (!((r1:Int)==0))
 (.r (0,r1,(⟨ws⟩:ze)))
 (.g d.isSome <|
 .g (zN p ((d.getD default).at_).length) <|
 .b (zey (some (⟨ws⟩:ze)) (zw ((d.getD default).at_) p.toNat)) fun r2=>
 .c (!((r2.2:Int)==0))
 (.r (0,r2.2,(⟨ws⟩:ze)))
 (.g d.isSome <|
 .g (zN p ((d.getD default).outs).length) <|
 .c (decide (((IntKind.u64.wrap r2.1):Int)>=(IntKind.u64.wrap (zw ((d.getD default).outs) p.toNat))))
 (.r (5,0,(⟨ws⟩:ze)))
 (.g d.isSome <|
 .g (zN p ((d.getD default).at_).length) <|
 .b (zdN (zw ((d.getD default).at_) p.toNat) (u32.wrap (r2.1+1)) ws) fun r3=>
 .r (0,r3.1,r3.2))))
theorem zHw(d:(Option zT))(p:Int)(ws:List Int):Oks 106 [.op .sDeviceDevices d,.ref 0 0,(zg p)] [.cells 112 [.own 1],.arr 46 (.i .u32) ws] (zm6 d p ws) zFf:=zL GC1 (H:=H0) zJ Tryz.func106 rfl (by kernel_rfl) (fun J=>by kernel_rfl)
abbrev zwY:=zU × Bool × ze
def zFo(r:zwY):Ans:=⟨.tup [.agg [(zr r.1.first),(zr r.1.lost),.own 2],(avB r.2.1)],[.cells 112 [.own 1],.arr 46 (.i .u32) r.2.2.words,.arr 53 (.sl (.i .u32)) r.1.messages]⟩
inductive zwI where | l5 (v0:zCD)
def H173:zaa:=htt [2] [(5,⟨fgt [3,6,8] 54 0,[(.slot 8,.sl (.i .u32))]⟩)] []
def zOD(f:zy)(pl:Int)(ws:List Int):zwI->Nat × St | .l5 v0=>(5,⟨mkE [(3,.ref 2 0),(6,.ref 3 0),(8,.sl (.i .u32) v0.1)] 54 0,[.cells 112 [.own 1],.arr 46 (.i .u32) ws,.cells 299 [(zg f.words),(zg f.depth)],.cells 301 [(zr 0),(zr 0),.v (.slice none 0 0)]],GL,2,[],zO⟩)
def ztr(f:zy)(pl:Int)(ws:List Int):zwI->Tree zwI zwY | .l5 v0 =>let y1:=(⟨ws⟩:ze);let y2:=zN 0 v0.1.length;.g (inS 3 v0.1.length v0.1.length) <| .g y2 <| .g (zN 1 v0.1.length) <| .b (zid f ((v0.1.take (v0.1.length:Int).toNat).drop 3) (zw v0.1 0) (zw v0.1 1)) fun r3=>.g y2 <| .g (zN 2 v0.1.length) <| .c r3.2 (.g (zN 1 v0.1.length) <| .c (decide ((zw v0.1 1:Int)>0)) (.r ((⟨zw v0.1 0,zw v0.1 2,r3.1⟩:zU),true,y1)) (.g y2 <| .r ((⟨zw v0.1 0,zw v0.1 2,r3.1⟩:zU),((zw v0.1 0:Int)==0),y1))) (.r ((⟨zw v0.1 0,zw v0.1 2,r3.1⟩:zU),false,y1))
def zzQ(f:zy)(pl:Int)(ws:List Int):Tree zwI zwY:=.b (zcX (some (⟨ws⟩:ze)) pl (zeH f 3)) fun r1=>.j (.l5 r1)
def zue(f:zy)(pl:Int)(ws:List Int):zwI->Option zwY:=zan (ztr f pl ws)
theorem zx0(f:zy)(pl:Int)(ws:List Int)(l:zwI):zue f pl ws l=(ztr f pl ws l).run (zue f pl ws):=zF _ l
def zgH(f:zy)(pl:Int)(ws:List Int):Option zwY:=(zzQ f pl ws).run (zue f pl ws)
theorem zIo(f:zy)(pl:Int)(ws:List Int):Oks 173 [.agg [(zg f.words),(zg f.depth)],.ref 0 0,(zg pl)] [.cells 112 [.own 1],.arr 46 (.i .u32) ws] (zgH f pl ws) zFo:=zM GC1 (H:=H173) zJ Tryz.func173 rfl (by kernel_rfl) (zOD f pl ws) (fun J l=>by cases l <;> kernel_rfl) (fun J=>by kernel_rfl)
abbrev znO:=zU × Bool × ze
def zFC(r:znO):Ans:=⟨.tup [.agg [(zr r.1.first),(zr r.1.lost),.own 2],(avB r.2.1)],[.cells 112 [.own 1],.arr 46 (.i .u32) r.2.2.words,.arr 53 (.sl (.i .u32)) r.1.messages]⟩
inductive zwO where | l5 (v0:zCD)
def H214:zaa:=htt [2] [(5,⟨fgt [3,6,8] 33 0,[(.slot 8,.sl (.i .u32))]⟩)] []
def zOJ(f:zy)(pl:Int)(ws:List Int):zwO->Nat × St | .l5 v0=>(5,⟨mkE [(3,.ref 2 0),(6,.ref 3 0),(8,.sl (.i .u32) v0.1)] 33 0,[.cells 112 [.own 1],.arr 46 (.i .u32) ws,.cells 299 [(zg f.words),(zg f.depth)],.cells 301 [(zr 0),(zr 0),.v (.slice none 0 0)]],GL,2,[],zO⟩)
def ztt(f:zy)(pl:Int)(ws:List Int):zwO->Tree zwO znO | .l5 v0=>.g (inS 1 v0.1.length v0.1.length) <| .g (zN 0 v0.1.length) <| .b (zid f ((v0.1.take (v0.1.length:Int).toNat).drop 1) 0 (zw v0.1 0)) fun r3=>.r ((⟨0,0,r3.1⟩:zU),r3.2,(⟨ws⟩:ze))
def zzW(f:zy)(pl:Int)(ws:List Int):Tree zwO znO:=.b (zcX (some (⟨ws⟩:ze)) pl (zeH f 1)) fun r1=>.j (.l5 r1)
def zug(f:zy)(pl:Int)(ws:List Int):zwO->Option znO:=zan (ztt f pl ws)
theorem zx2(f:zy)(pl:Int)(ws:List Int)(l:zwO):zug f pl ws l=(ztt f pl ws l).run (zug f pl ws):=zF _ l
def zgJ(f:zy)(pl:Int)(ws:List Int):Option znO:=(zzW f pl ws).run (zug f pl ws)
theorem zIH(f:zy)(pl:Int)(ws:List Int):Oks 214 [.agg [(zg f.words),(zg f.depth)],.ref 0 0,(zg pl)] [.cells 112 [.own 1],.arr 46 (.i .u32) ws] (zgJ f pl ws) zFC:=zM GC1 (H:=H214) zJ Tryz.func214 rfl (by kernel_rfl) (zOJ f pl ws) (fun J l=>by cases l <;> kernel_rfl) (fun J=>by kernel_rfl)
end Go.Proofs.YtgajeebphoiphaaGreatDoor
end
