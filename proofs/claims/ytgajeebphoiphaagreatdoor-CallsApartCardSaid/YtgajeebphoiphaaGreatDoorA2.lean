import Derived.Test.YtgajeebphoiphaaGreatDoorC12
set_option linter.unusedVariables false
set_option linter.unusedSimpArgs false
noncomputable section
open Go.IntKind (i64 u32)
namespace Go.Proofs.YtgajeebphoiphaaGreatDoor
open Go.RowKit
abbrev R40:=Bool
def to40(r:R40):Ans:=⟨.v (.bool r),[]⟩
noncomputable def zwf(c:za)(p:Int)(o:zaF):Option R40:=Tree.run0 <|
 .c ((o.kind:Int)==9)
 (.r true)
 (.c ((o.kind:Int)==1)
  (.r ((o.index:Int)==p))
  (.c ((o.kind:Int)==5)
   (.r ((o.index:Int)==p))
   (.c ((o.kind:Int)==7)
    (.b (znH c p o.index true) fun r1=>
     .r r1)
    (.c ((o.kind:Int)==8)
     (.r ((o.index:Int)==p))
     (.r false)))))
theorem zNX(c:za)(p:Int)(o:zaF):Oks 40 [.agg (Ty.enc .sConfig c),.v (.int .i64 p),.agg (Ty.enc .sOwner o)] [] (zwf c p o) to40:=
 zM zGh (H:=H0) zJ Tryz.func40 rfl (by kernel_rfl) (fun J=>by kernel_rfl)
abbrev R15:=(List zaF)
def to15(r:R15):Ans:=⟨.own 0,[.arr 124 .sOwner r]⟩
inductive L15 where
 | l0 (x0:Int) (x1:List zaF)
def H15:zab:=⟨fun n=>[].any (Nat.beq n),zfi [(0,⟨fgt [1,3,4] 25 0,[(.slot 3,.own 124 .sOwner)]⟩)],[],G0,zN⟩
noncomputable def st15(c:za):L15->Nat × St
 | .l0 x0 x1=>(0,⟨mkE [(1,.ref 0 0),(3,.own 1),(4,.v (.int .i64 x0))] 25 0,[.cells 26 (Ty.enc .sConfig c),.arr 124 .sOwner x1],GL,0,[],zN⟩)
noncomputable def zu7(c:za):L15->Tree L15 R15
 | .l0 x0 x1=>.c (decide ((x0:Int)<(i64.wrap (16*c.qr))))
  (.b (ztf c x0) fun r1=>
   .g (leB (((x1:List zaF).length+([r1.1]:List zaF).length)*24) 140737488355328) <|
   .j (.l0 (i64.wrap (x0+1)) ((x1:List zaF)++[r1.1])))
  (.r x1)
noncomputable def zEH(c:za):Tree L15 R15:=
 .j (.l0 0 [])
noncomputable def zsK(c:za):L15->Option R15:=zal (zu7 c)
theorem zsL(c:za)(l:L15):zsK c l=(zu7 c l).run (zsK c):=zE _ l
noncomputable def zwc(c:za):Option R15:=(zEH c).run (zsK c)
theorem zNB(c:za):Oks 15 [.agg (Ty.enc .sConfig c)] [] (zwc c) to15:=
 zL zGh (H:=H15) zJ Tryz.func15 rfl (by kernel_rfl) (st15 c) (fun J l=>by cases l <;> kernel_rfl) (fun J=>by kernel_rfl)
noncomputable def k40:Fk 40:=aF (aS .sConfig fun a0=>aL (.i .i64) fun a1=>aS .sOwner fun a2=>aE (zNX a0 a1 a2))
noncomputable def k15:Fk 15:=aF (aS .sConfig fun a0=>aE (zNB a0))
noncomputable def GA0:GK:=zhZ [⟨40,k40⟩,⟨15,k15⟩] zGh
abbrev R16:=ze
def to16(r:R16):Ans:=⟨.ref 0 0,[.cells 112 [.own 1],.arr 46 (.i .u32) r.qx]⟩
inductive L16 where
 | l0 (x0:Int) (x1:Int) (x2:List Int)
 | l19 (x0:Int) (x1:Int) (x2:Int) (x3:List Int)
def H16:zab:=⟨fun n=>[9].any (Nat.beq n),zfi [(0,⟨fgt [1,2,3,4,5,11,12] 54 0,[(.slot 11,.own 46 (.i .u32))]⟩),(19,⟨fgt [1,2,3,4,5,11,12,13] 54 0,[(.slot 11,.own 46 (.i .u32))]⟩)],[],G0,zN⟩
noncomputable def st16(c:za)(p:Int)(qx:(List Int))(owners:(List zaF))(noise:Int):L16->Nat × St
 | .l0 x0 x1 x2=>(0,⟨mkE [(1,.v (.int .i64 p)),(2,.sl (.i .u32) qx),(3,.sl .sOwner owners),(4,.v (.int .u32 x0)),(5,.ref 0 0),(11,.own 1),(12,.v (.int .i64 x1))] 54 0,[.cells 26 (Ty.enc .sConfig c),.arr 46 (.i .u32) x2],GL,0,[],zN⟩)
 | .l19 x0 x1 x2 x3=>(19,⟨mkE [(1,.v (.int .i64 p)),(2,.sl (.i .u32) qx),(3,.sl .sOwner owners),(4,.v (.int .u32 x0)),(5,.ref 0 0),(11,.own 1),(12,.v (.int .i64 x1)),(13,.v (.int .u32 x2))] 54 0,[.cells 26 (Ty.enc .sConfig c),.arr 46 (.i .u32) x3],GL,0,[],zN⟩)
noncomputable def zrG(c:za)(p:Int)(qx:(List Int))(owners:(List zaF))(noise:Int):L16->Tree L16 R16
 | .l0 x0 x1 x2=>.c (decide ((x1:Int)<qx.length))
  (.g (zO x1 qx.length) <|
   .c (decide ((x1:Int)<owners.length))
   (.g (zO x1 owners.length) <|
    .b (zwf c p (zpZ owners x1.toNat)) fun r1=>
    .c (!r1)
    (.j (.l19 (u32.wrap ((u32.wrap (x0*1664525))+1013904223)) x1 (u32.wrap ((u32.wrap (x0*1664525))+1013904223)) x2))
    (.j (.l19 x0 x1 (zt qx x1.toNat) x2)))
   (.j (.l19 x0 x1 (zt qx x1.toNat) x2)))
  (.b (zli x2) fun r2=>
   .r r2.1)
 | .l19 x0 x1 x2 x3=>.g (leB (((x3:List Int).length+([x2]:List Int).length)*4) 140737488355328) <|
  .j (.l0 x0 (i64.wrap (x1+1)) ((x3:List Int)++[x2]))
noncomputable def zEI(c:za)(p:Int)(qx:(List Int))(owners:(List zaF))(noise:Int):Tree L16 R16:=
 .j (.l0 noise 0 [])
noncomputable def zsM(c:za)(p:Int)(qx:(List Int))(owners:(List zaF))(noise:Int):L16->Option R16:=zal (zrG c p qx owners noise)
theorem zm5(c:za)(p:Int)(qx:(List Int))(owners:(List zaF))(noise:Int)(l:L16):zsM c p qx owners noise l=(zrG c p qx owners noise l).run (zsM c p qx owners noise):=zE _ l
noncomputable def zwd(c:za)(p:Int)(qx:(List Int))(owners:(List zaF))(noise:Int):Option R16:=(zEI c p qx owners noise).run (zsM c p qx owners noise)
theorem zNC(c:za)(p:Int)(qx:(List Int))(owners:(List zaF))(noise:Int):Oks 16 [.agg (Ty.enc .sConfig c),.v (.int .i64 p),.sl (.i .u32) qx,.sl .sOwner owners,.v (.int .u32 noise)] [] (zwd c p qx owners noise) to16:=
 zL GA0 (H:=H16) zJ Tryz.func16 rfl (by kernel_rfl) (st16 c p qx owners noise) (fun J l=>by cases l <;> kernel_rfl) (fun J=>by kernel_rfl)
noncomputable def k16:Fk 16:=aF (aS .sConfig fun a0=>aL (.i .i64) fun a1=>aL (.sl (.i .u32)) fun a2=>aL (.sl .sOwner) fun a3=>aL (.i .u32) fun a4=>aE (zNC a0 a1 a2 a3 a4))
noncomputable def GA1:GK:=zhZ [⟨16,k16⟩] GA0
abbrev R4:=Bool
def to4(r:R4):Ans:=⟨.v (.bool r),[]⟩
inductive L4 where
 | l0 (v0:R8) (v1:R15) (x0:Int) (x1:List Int)
 | l4 (v0:R8) (v1:R12) (v2:R15) (v3:R11) (v4:R11) (v5:R11) (v6:R11) (x0:Int) (x1:Int)
def H4:zab:=⟨fun n=>[].any (Nat.beq n),zfi [(0,⟨fgt [1,2,7,9,10] 223 0,[]⟩),(4,⟨fgt [1,2,7,9,10,13,15,24,25,26] 223 0,[]⟩)],[],G0,zN⟩
noncomputable def st4(x:zp)(script:(List zq))(noise:Int):L4->Nat × St
 | .l0 v0 v1 x0 x1=>(0,⟨mkE [(1,.sl .sBulkheadlaw25Op script),(2,.v (.int .u32 noise)),(7,.ref 0 0),(9,.own 3),(10,.v (.int .i64 x0))] 223 0,[.cells 45 [.v (.int .i64 v0.1.c.qr),.v (.int .i64 v0.1.c.major),.v (.int .i64 v0.1.c.kernel),.v (.int .i64 v0.1.c.room),.sl (.sl .sWindow) v0.1.c.qp,.sl .sPartition v0.1.c.qq,.sl .sChannel v0.1.c.qw,.op .sCallsCalls v0.1.s,.op .sBulkheadref25Calls v0.1.r,.ref 1 0,.op .sBulkheadref05Memory v0.1.n,.op .sMemMemory v0.1.p,.op .sBulkheadref05Memory v0.1.q,.sl .sBulkheadlaw25KeptInts v0.1.kept.ints],.cells 112 [.own 2],.arr 46 (.i .u32) x1,.arr 124 .sOwner v1],GL,0,[],zN⟩)
 | .l4 v0 v1 v2 v3 v4 v5 v6 x0 x1=>(4,⟨mkE [(1,.sl .sBulkheadlaw25Op script),(2,.v (.int .u32 noise)),(7,.ref 0 0),(9,.own 3),(10,.v (.int .i64 x0)),(13,.own 4),(15,.own 5),(24,.own 6),(25,.own 7),(26,.v (.int .i64 x1))] 223 0,[.cells 45 [.v (.int .i64 v0.1.c.qr),.v (.int .i64 v0.1.c.major),.v (.int .i64 v0.1.c.kernel),.v (.int .i64 v0.1.c.room),.sl (.sl .sWindow) v0.1.c.qp,.sl .sPartition v0.1.c.qq,.sl .sChannel v0.1.c.qw,.op .sCallsCalls v0.1.s,.op .sBulkheadref25Calls v0.1.r,.ref 1 0,.op .sBulkheadref05Memory v0.1.n,.op .sMemMemory v0.1.p,.op .sBulkheadref05Memory v0.1.q,.sl .sBulkheadlaw25KeptInts v0.1.kept.ints],.cells 112 [.own 2],.arr 46 (.i .u32) v1.2.2.2.2.qx,.arr 124 .sOwner v2,.arr 46 (.i .u32) v3,.arr 46 (.i .u32) v4,.arr 46 (.i .u32) v5,.arr 46 (.i .u32) v6],GL,0,[],zN⟩)
noncomputable def zxw(x:zp)(script:(List zq))(noise:Int):L4->Tree L4 R4
 | .l0 v0 v1 x0 x1=>.c (decide ((x0:Int)<script.length))
  (.g (zO x0 script.length) <|
   .c (((zh script x0.toNat).kind:Int)==4)
   (.b (ztq v0.1.s x1) fun r8=>
    .c (!((r8.1:Int)==0))
    (.r false)
    (.j (.l0 v0 v1 (i64.wrap (x0+1)) r8.2.qx)))
   (.b (zf1 ((zh script x0.toNat).p) v0.1.c.qq.length) fun r9=>
    .b (zf1 ((zh script x0.toNat).call) 8) fun r10=>
    .b (zf1 ((zh script x0.toNat).qu) 1073741824) fun r11=>
    .b (zjs (some (⟨x1⟩:ze))) fun r12=>
    .b (zwd v0.1.c r9 r12 v1 (u32.wrap (noise+(u32.wrap x0)))) fun r13=>
    .b (zjs (some r13)) fun r14=>
    .b (zf2 (⟨(zh script x0.toNat).kind,r9,r11,r10,(zh script x0.toNat).a,(zh script x0.toNat).r1,(zh script x0.toNat).r2,(zh script x0.toNat).r3,(zh script x0.toNat).w,(zh script x0.toNat).list⟩:zq)) fun r15=>
    .b (zeB v0.1.s r9 r11 r10 r15 x1) fun r16=>
    .b (zf2 (⟨(zh script x0.toNat).kind,r9,r11,r10,(zh script x0.toNat).a,(zh script x0.toNat).r1,(zh script x0.toNat).r2,(zh script x0.toNat).r3,(zh script x0.toNat).w,(zh script x0.toNat).list⟩:zq)) fun r17=>
    .b (zeB v0.1.s r9 r11 r10 r17 r13.qx) fun r18=>
    .b (zjs (some r16.2.2.2.2)) fun r19=>
    .b (zjs (some r18.2.2.2.2)) fun r20=>
    .c (!((((r16.1.qz.e0:Int)==r18.1.qz.e0)&&(((r16.1.qz.e1:Int)==r18.1.qz.e1)&&(((r16.1.qz.e2:Int)==r18.1.qz.e2)&&(((r16.1.qz.e3:Int)==r18.1.qz.e3)&&(((r16.1.qz.e4:Int)==r18.1.qz.e4)&&(((r16.1.qz.e5:Int)==r18.1.qz.e5)&&(((r16.1.qz.e6:Int)==r18.1.qz.e6)&&(((r16.1.qz.e7:Int)==r18.1.qz.e7)&&(((r16.1.qz.e8:Int)==r18.1.qz.e8)&&(((r16.1.qz.e9:Int)==r18.1.qz.e9)&&(((r16.1.qz.e10:Int)==r18.1.qz.e10)&&(((r16.1.qz.e11:Int)==r18.1.qz.e11)&&(((r16.1.qz.e12:Int)==r18.1.qz.e12)&&(((r16.1.qz.e13:Int)==r18.1.qz.e13)&&(((r16.1.qz.e14:Int)==r18.1.qz.e14)&&(((r16.1.qz.e15:Int)==r18.1.qz.e15)&&true))))))))))))))))&&(((r16.1.pC:Int)==r18.1.pC)&&true)))
    (.r false)
    (.c (!((r16.2.1:Int)==r18.2.1))
     (.r false)
     (.c (!(r16.2.2.1==r18.2.2.1))
      (.r false)
      (.c (!((r16.2.2.2.1:Int)==0))
       (.r false)
       (.c (!((r18.2.2.2.1:Int)==0))
        (.r false)
        (.c (!((r19.length:Int)==r20.length))
         (.r false)
         (.c (!((r19.length:Int)==r12.length))
          (.r false)
          (.j (.l4 v0 r16 v1 r12 r14 r19 r20 x0 0))))))))))
  (.r true)
 | .l4 v0 v1 v2 v3 v4 v5 v6 x0 x1=>.c (decide ((x1:Int)<v5.length))
  (.g (zO x1 v5.length) <|
   .g (zO x1 v3.length) <|
   .g (zO x1 v6.length) <|
   .g (zO x1 v4.length) <|
   .c (!(((u32.wrap (zt v5 x1.toNat-zt v3 x1.toNat)):Int)==(u32.wrap (zt v6 x1.toNat-zt v4 x1.toNat))))
   (.r false)
   (.j (.l4 v0 v1 v2 v3 v4 v5 v6 x0 (i64.wrap (x1+1)))))
  (.j (.l0 v0 v2 (i64.wrap (x0+1)) v1.2.2.2.2.qx))
noncomputable def ent4(x:zp)(script:(List zq))(noise:Int):Tree L4 R4:=
 .b (zB8) fun r1=>
 .c (!r1)
 (.r false)
 (.b (zB9 x) fun r2=>
  .c r2
  (.r true)
  (.o (zrg x) (fun r4=>
   .c (!r4.2)
   (.r r4.2)
   (.c r4.1.s.isNone
    (.r r4.2)
    (.b (zwc r4.1.c) fun r5=>
     .j (.l0 r4 r5 0 ((r4.1.m.getD default).qx)))))
   (.b (zeg x) fun r7=>
    .c (!r7.2)
    (.r r7.2)
    (.r r7.2))))
noncomputable def zB5(x:zp)(script:(List zq))(noise:Int):L4->Option R4:=zal (zxw x script noise)
theorem zlL(x:zp)(script:(List zq))(noise:Int)(l:L4):zB5 x script noise l=(zxw x script noise l).run (zB5 x script noise):=zE _ l
noncomputable def zJY(x:zp)(script:(List zq))(noise:Int):Option R4:=(ent4 x script noise).run (zB5 x script noise)
theorem oks4(x:zp)(script:(List zq))(noise:Int):Oks 4 [.agg (Ty.enc .sBulkheadlaw25Start x),.sl .sBulkheadlaw25Op script,.v (.int .u32 noise)] [] (zJY x script noise) to4:=
 zL GA1 (H:=H4) zJ Tryz.func4 rfl (by kernel_rfl) (st4 x script noise) (fun J l=>by cases l <;> kernel_rfl) (fun J=>by kernel_rfl)
end Go.Proofs.YtgajeebphoiphaaGreatDoor
end
