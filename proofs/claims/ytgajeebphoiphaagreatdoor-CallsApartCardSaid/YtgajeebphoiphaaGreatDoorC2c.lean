import Derived.Test.YtgajeebphoiphaaGreatDoorC2b
set_option linter.unusedVariables false
set_option linter.unusedSimpArgs false
noncomputable section
open Go.IntKind (i64 u32)
namespace Go.Proofs.YtgajeebphoiphaaGreatDoor
open Go.RowKit
abbrev zyR:=zx
def zPW(r:zyR):Ans:=⟨.agg [(zg r.e),(zg r.where_.first),(zg r.where_.second)],[]⟩
inductive zwL where | l0 (x0:Int) (x1:Int) (x2:Int) (x3:Int) | l4 (x0:Int) (x1:Int) (x2:Int) (x3:Int)
def H121:zab:=htt [] [(0,⟨fgt [1,2,4,5,6,7] 118 0,[]⟩),(4,⟨fgt [1,2,4,5,6,8] 118 0,[]⟩)] []
def zO8(c:za)(p:Int):zwL->Nat × St | .l0 x0 x1 x2 x3=>(0,⟨mkE [(1,(zg p)),(2,.ref 0 0),(4,.ref 1 0),(5,.ref 2 0),(6,.ref 3 0),(7,(zg x0))] 118 0,[.cells 26 (Ty.enc .sConfig c),.cells 194 [(zg 0),(zg 0),(zg 0)],.cells 72 (Ty.enc .sPartition (zb c.qq p.toNat)),.cells 194 [(zg x1),(zg x2),(zg x3)]],GL,0,[],zN⟩) | .l4 x0 x1 x2 x3=>(4,⟨mkE [(1,(zg p)),(2,.ref 0 0),(4,.ref 1 0),(5,.ref 2 0),(6,.ref 3 0),(8,(zg x0))] 118 0,[.cells 26 (Ty.enc .sConfig c),.cells 194 [(zg 0),(zg 0),(zg 0)],.cells 72 (Ty.enc .sPartition (zb c.qq p.toNat)),.cells 194 [(zg x1),(zg x2),(zg x3)]],GL,0,[],zN⟩)
def zf8(c:za)(p:Int):zwL->Tree zwL zyR | .l0 x0 x1 x2 x3 =>let y2:=(x1==fine.e)&&(((x2==fine.where_.first)&&((x3==fine.where_.second)&&true))&&true);let y3:=zb c.qq p.toNat;let y4:=(⟨x1,(⟨x2,x3⟩:za0)⟩:zx);let y6:=za1 (y3.entry) 0 4095;let y7:=za3 p;let y1:=(zag (decide (((y3.qt).length:Int)<=8)) 413 y7);let y5:=zbz [(zag false 412 y7),y1];.c (decide (x0<(y3.qe).length)) (.c y2 (.b (zrb c p x0) fun r6=>.j (.l0 (i64.wrap (x0+1)) r6.e r6.where_.first r6.where_.second)) (.c (!y2) (.r y4) (.c y6 (.b (znn y3) fun r7=>.b (zbz [(zag r7 412 y7),y1]) fun r8=>.j (.l4 0 r8.e r8.where_.first r8.where_.second)) (.b y5 fun r9=>.j (.l4 0 r9.e r9.where_.first r9.where_.second))))) (.c (!y2) (.r y4) (.c y6 (.b (znn y3) fun r10=>.b (zbz [(zag r10 412 y7),y1]) fun r11=>.j (.l4 0 r11.e r11.where_.first r11.where_.second)) (.b y5 fun r12=>.j (.l4 0 r12.e r12.where_.first r12.where_.second)))) | .l4 x0 x1 x2 x3 =>let y2:=(zb c.qq p.toNat).qt;let y1:=zag (za1 ((zbe y2 x0.toNat).ql) 0 (i64.wrap (c.qw.length-1))) 414 (zdI p x0);let y3:=(⟨x1,(⟨x2,x3⟩:za0)⟩:zx);.c (decide (x0<y2.length)) (.c ((x1==fine.e)&&(((x2==fine.where_.first)&&((x3==fine.where_.second)&&true))&&true)) (.g (zO x0 y2.length) <| .j (.l4 (i64.wrap (x0+1)) (y1.e) (y1.where_.first) (y1.where_.second))) (.r y3)) (.r y3)
def zz1(c:za)(p:Int):Tree zwL zyR:=.g (zO p c.qq.length) <| .b (znm c p) fun r1=>.c (za1 ((zb c.qq p.toNat).action) 0 2) (.c (za1 ((zb c.qq p.toNat).qE) 0 16) (.b (zbz [(zag r1 405 (za3 p)),(zag (za1 ((zb c.qq p.toNat).qR) 0 15) 406 (za3 p)),(zag (za1 ((zb c.qq p.toNat).qW) 0 16) 407 (za3 p)),(zag (za1 (((zb c.qq p.toNat).qe).length) 1 8) 408 (za3 p))]) fun r2=>.j (.l0 0 r2.e r2.where_.first r2.where_.second)) (.b (zbz [(zag r1 405 (za3 p)),(zag (za1 ((zb c.qq p.toNat).qR) 0 15) 406 (za3 p)),(zag false 407 (za3 p)),(zag (za1 (((zb c.qq p.toNat).qe).length) 1 8) 408 (za3 p))]) fun r3=>.j (.l0 0 r3.e r3.where_.first r3.where_.second))) (.c (za1 ((zb c.qq p.toNat).qE) 0 16) (.b (zbz [(zag r1 405 (za3 p)),(zag false 406 (za3 p)),(zag (za1 ((zb c.qq p.toNat).qW) 0 16) 407 (za3 p)),(zag (za1 (((zb c.qq p.toNat).qe).length) 1 8) 408 (za3 p))]) fun r4=>.j (.l0 0 r4.e r4.where_.first r4.where_.second)) (.b (zbz [(zag r1 405 (za3 p)),(zag false 406 (za3 p)),(zag false 407 (za3 p)),(zag (za1 (((zb c.qq p.toNat).qe).length) 1 8) 408 (za3 p))]) fun r5=>.j (.l0 0 r5.e r5.where_.first r5.where_.second)))
def zmZ(c:za)(p:Int):zwL->Option zyR:=zal (zf8 c p)
theorem zed(c:za)(p:Int)(l:zwL):zmZ c p l=(zf8 c p l).run (zmZ c p):=zE _ l
def zq1(c:za)(p:Int):Option zyR:=(zz1 c p).run (zmZ c p)
theorem zIj(c:za)(p:Int):Oks 121 [.agg (Ty.enc .sConfig c),(zg p)] [] (zq1 c p) zPW:=zL GC1 (H:=H121) zJ Tryz.func121 rfl (by kernel_rfl) (zO8 c p) (fun J l=>by cases l <;> kernel_rfl) (fun J=>by kernel_rfl)
abbrev R70:=Bool
def to70(r:R70):Ans:=⟨(avB r),[]⟩
inductive L70 where | l0 (x0:Int) | l4 (x0:Int) | l8 (x0:Int) (x1:Int) (x2:Int) (x3:Int) (x4:Int)
def H70:zab:=htt [] [(0,⟨fgt [1,31,32] 106 0,[]⟩),(4,⟨fgt [1,48,49] 106 0,[]⟩),(8,⟨fgt [1,4,6,7,48,49,72,73] 106 0,[]⟩)] []
def st70(c:za):L70->Nat × St | .l0 x0=>(0,⟨mkE [(1,.ref 0 0),(31,(zg c.qq.length)),(32,(zg x0))] 106 0,[.cells 26 (Ty.enc .sConfig c)],GL,0,[],zN⟩) | .l4 x0=>(4,⟨mkE [(1,.ref 0 0),(48,(zg c.qw.length)),(49,(zg x0))] 106 0,[.cells 26 (Ty.enc .sConfig c)],GL,0,[],zN⟩) | .l8 x0 x1 x2 x3 x4=>(8,⟨mkE [(1,.ref 0 0),(4,(zg x0)),(6,(zg x1)),(7,(zg x2)),(48,(zg c.qw.length)),(49,(zg x3)),(72,(zg c.qq.length)),(73,(zg x4))] 106 0,[.cells 26 (Ty.enc .sConfig c)],GL,0,[],zN⟩)
def zkL(c:za):L70->Tree L70 R70 | .l0 x0=>.c (decide (x0<c.qq.length)) (.g (zO x0 c.qq.length) <| .b (zni (zb c.qq x0.toNat) c.qw.length) fun r1=>.c (!r1) (.r false) (.j (.l0 (i64.wrap (x0+1))))) (.j (.l4 0)) | .l4 x0 =>let y1:=zw c.qw x0.toNat;.c (decide (x0<c.qw.length)) (.g (zO x0 c.qw.length) <| .c (((zo8 y1):Int)==0) (.r false) (.c ((y1.kind:Int)==1) (.c (!((y1.qy:Int)==0)) (.r false) (.j (.l8 x0 0 0 x0 0))) (.j (.l8 x0 0 0 x0 0)))) (.r true) | .l8 x0 x1 x2 x3 x4 =>let y1:=zb c.qq x4.toNat;let y2:=zO x4 c.qq.length;.c (decide (x4<c.qq.length)) (.g y2 <| .b (zkl y1 x0 true) fun r2=>.g y2 <| .b (zkl y1 x0 false) fun r3=>.j (.l8 x0 (i64.wrap (x1+r2)) (i64.wrap (x2+r3)) x3 (i64.wrap (x4+1)))) (.c (!(x1==1)) (.r false) (.c (decide (x2<1)) (.r false) (.c (decide (x2>4)) (.r false) (.j (.l4 (i64.wrap (x3+1)))))))
def zE6(c:za):Tree L70 R70:=.c (decide ((c.kernel:Int)<0)) (.r false) (.c (decide ((c.kernel:Int)>=1024)) (.r false) (.c (decide ((c.qq.length:Int)>8)) (.r false) (.c (decide ((c.qw.length:Int)>16)) (.r false) (.j (.l0 0)))))
def zle(c:za):L70->Option R70:=zal (zkL c)
theorem zfr(c:za)(l:L70):zle c l=(zkL c l).run (zle c):=zE _ l
def znG(c:za):Option R70:=(zE6 c).run (zle c)
theorem zOp(c:za):Oks 70 [.agg (Ty.enc .sConfig c)] [] (znG c) to70:=zL GC1 (H:=H70) zJ Tryz.func70 rfl (by kernel_rfl) (st70 c) (fun J l=>by cases l <;> kernel_rfl) (fun J=>by kernel_rfl)
abbrev zGp:=Int × Int × ze
def zFH(r:zGp):Ans:=⟨.tup [(zg r.1),(zg r.2.1)],[.cells 112 [.own 1],.arr 46 (.i .u32) r.2.2.qx]⟩
def znh(d:(Option zR))(p:Int)(ws:List Int):Option zGp:=Tree.run0 <|
 .b (zra d (some (⟨ws⟩:ze)) [p]) fun r1=>
 .c (!((r1:Int)==0))
 (.r (0,r1,(⟨ws⟩:ze)))
 (.g d.isSome <|
 .g (zO p ((d.getD default).at_).length) <|
 .b (zeE (some (⟨ws⟩:ze)) (zt ((d.getD default).at_) p.toNat)) fun r2=>
 .c (!((r2.2:Int)==0))
 (.r (0,r2.2,(⟨ws⟩:ze)))
 (.g d.isSome <|
 .g (zO p ((d.getD default).outs).length) <|
 .c (decide (((IntKind.u64.wrap r2.1):Int)>=(IntKind.u64.wrap (zt ((d.getD default).outs) p.toNat))))
 (.r (5,0,(⟨ws⟩:ze)))
 (.g d.isSome <|
 .g (zO p ((d.getD default).at_).length) <|
 .b (zdP (zt ((d.getD default).at_) p.toNat) (u32.wrap (r2.1+1)) ws) fun r3=>
 .r (0,r3.1,r3.2))))
theorem zIa(d:(Option zR))(p:Int)(ws:List Int):Oks 106 [.op .sDeviceDevices d,.ref 0 0,(zg p)] [.cells 112 [.own 1],.arr 46 (.i .u32) ws] (znh d p ws) zFH:=zM GC1 (H:=H0) zJ Tryz.func106 rfl (by kernel_rfl) (fun J=>by kernel_rfl)
abbrev zxm:=zU × Bool × ze
def zFQ(r:zxm):Ans:=⟨.tup [.agg [(zu r.1.first),(zu r.1.lost),.own 2],(avB r.2.1)],[.cells 112 [.own 1],.arr 46 (.i .u32) r.2.2.qx,.arr 53 (.sl (.i .u32)) r.1.qd]⟩
inductive zw6 where | l5 (v0:zC4)
def H173:zab:=htt [2] [(5,⟨fgt [3,6,8] 54 0,[(.slot 8,.sl (.i .u32))]⟩)] []
def zPt(f:zy)(pl:Int)(ws:List Int):zw6->Nat × St | .l5 v0=>(5,⟨mkE [(3,.ref 2 0),(6,.ref 3 0),(8,.sl (.i .u32) v0.1)] 54 0,[.cells 112 [.own 1],.arr 46 (.i .u32) ws,.cells 299 [(zg f.qx),(zg f.qy)],.cells 301 [(zu 0),(zu 0),.v (.slice none 0 0)]],GL,2,[],zN⟩)
def ztW(f:zy)(pl:Int)(ws:List Int):zw6->Tree zw6 zxm | .l5 v0 =>let y1:=(⟨ws⟩:ze);let y2:=zO 0 v0.1.length;.g (inS 3 v0.1.length v0.1.length) <| .g y2 <| .g (zO 1 v0.1.length) <| .b (zil f ((v0.1.take (v0.1.length:Int).toNat).drop 3) (zt v0.1 0) (zt v0.1 1)) fun r3=>.g y2 <| .g (zO 2 v0.1.length) <| .c r3.2 (.g (zO 1 v0.1.length) <| .c (decide ((zt v0.1 1:Int)>0)) (.r ((⟨zt v0.1 0,zt v0.1 2,r3.1⟩:zU),true,y1)) (.g y2 <| .r ((⟨zt v0.1 0,zt v0.1 2,r3.1⟩:zU),((zt v0.1 0:Int)==0),y1))) (.r ((⟨zt v0.1 0,zt v0.1 2,r3.1⟩:zU),false,y1))
def zAg(f:zy)(pl:Int)(ws:List Int):Tree zw6 zxm:=.b (zc2 (some (⟨ws⟩:ze)) pl (zeO f 3)) fun r1=>.j (.l5 r1)
def zuI(f:zy)(pl:Int)(ws:List Int):zw6->Option zxm:=zal (ztW f pl ws)
theorem zyo(f:zy)(pl:Int)(ws:List Int)(l:zw6):zuI f pl ws l=(ztW f pl ws l).run (zuI f pl ws):=zE _ l
def zgO(f:zy)(pl:Int)(ws:List Int):Option zxm:=(zAg f pl ws).run (zuI f pl ws)
theorem zI2(f:zy)(pl:Int)(ws:List Int):Oks 173 [.agg [(zg f.qx),(zg f.qy)],.ref 0 0,(zg pl)] [.cells 112 [.own 1],.arr 46 (.i .u32) ws] (zgO f pl ws) zFQ:=zL GC1 (H:=H173) zJ Tryz.func173 rfl (by kernel_rfl) (zPt f pl ws) (fun J l=>by cases l <;> kernel_rfl) (fun J=>by kernel_rfl)
abbrev znZ:=zU × Bool × ze
def zF4(r:znZ):Ans:=⟨.tup [.agg [(zu r.1.first),(zu r.1.lost),.own 2],(avB r.2.1)],[.cells 112 [.own 1],.arr 46 (.i .u32) r.2.2.qx,.arr 53 (.sl (.i .u32)) r.1.qd]⟩
inductive zxc where | l5 (v0:zC4)
def H214:zab:=htt [2] [(5,⟨fgt [3,6,8] 33 0,[(.slot 8,.sl (.i .u32))]⟩)] []
def zPz(f:zy)(pl:Int)(ws:List Int):zxc->Nat × St | .l5 v0=>(5,⟨mkE [(3,.ref 2 0),(6,.ref 3 0),(8,.sl (.i .u32) v0.1)] 33 0,[.cells 112 [.own 1],.arr 46 (.i .u32) ws,.cells 299 [(zg f.qx),(zg f.qy)],.cells 301 [(zu 0),(zu 0),.v (.slice none 0 0)]],GL,2,[],zN⟩)
def ztY(f:zy)(pl:Int)(ws:List Int):zxc->Tree zxc znZ | .l5 v0=>.g (inS 1 v0.1.length v0.1.length) <| .g (zO 0 v0.1.length) <| .b (zil f ((v0.1.take (v0.1.length:Int).toNat).drop 1) 0 (zt v0.1 0)) fun r3=>.r ((⟨0,0,r3.1⟩:zU),r3.2,(⟨ws⟩:ze))
def zAm(f:zy)(pl:Int)(ws:List Int):Tree zxc znZ:=.b (zc2 (some (⟨ws⟩:ze)) pl (zeO f 1)) fun r1=>.j (.l5 r1)
def zuK(f:zy)(pl:Int)(ws:List Int):zxc->Option znZ:=zal (ztY f pl ws)
theorem zyq(f:zy)(pl:Int)(ws:List Int)(l:zxc):zuK f pl ws l=(ztY f pl ws l).run (zuK f pl ws):=zE _ l
def zgQ(f:zy)(pl:Int)(ws:List Int):Option znZ:=(zAm f pl ws).run (zuK f pl ws)
theorem zJl(f:zy)(pl:Int)(ws:List Int):Oks 214 [.agg [(zg f.qx),(zg f.qy)],.ref 0 0,(zg pl)] [.cells 112 [.own 1],.arr 46 (.i .u32) ws] (zgQ f pl ws) zF4:=zL GC1 (H:=H214) zJ Tryz.func214 rfl (by kernel_rfl) (zPz f pl ws) (fun J l=>by cases l <;> kernel_rfl) (fun J=>by kernel_rfl)
end Go.Proofs.YtgajeebphoiphaaGreatDoor
end
