import Derived.Test.YtgajeebphoiphaaGreatDoorC2b
import Derived.Test.YtgajeebphoiphaaGreatDoorRows
import Derived.ProofKit
import Derived.LaidMore
import Derived.OpenShut
import Derived.Below
import Derived.SizedLaws
import Derived.Conc.Holds
set_option linter.unusedVariables false
set_option linter.unusedSimpArgs false
noncomputable section
namespace Go.Proofs.YtgajeebphoiphaaGreatDoor
open Go.ChangeShapes Go.WideShapes Go.ChangeAt Go.RowKit
section
variable {H:Type} {enc:TypeId × Value->H} {w:World} {sp:Nat->Bool} {held:Bool}
theorem zkO{f:Nat}{cs:List Value}{a b:Int}{p:List MemPlace}(hd:DataW.trod enc Tryz.prog w 0 sp held f 144 cs=some (.agg [.lit (.int .i64 a),.lit (.int .i64 b)],p)):cs=[.int .i64 a,.int .i64 b]:=by
 obtain ⟨y0,y1,n,hx,hl,h0,h1⟩:=trod_struct2 Tryz.underlying144 hd
 obtain ⟨a',e0,q0,_⟩:=DataW.trod_int (k:=.i64) (by kernel_rfl) h0
 obtain ⟨b',e1,q1,_⟩:=DataW.trod_int (k:=.i64) (by kernel_rfl) h1
 subst q0 q1
 simp at hx
 obtain ⟨⟨ha,hb⟩,_⟩:=hx
 rw[ha,hb]
 have hl2:cs.length=2:=hl.trans (by kernel_rfl)
 have c1:Tryz.prog.cellsOf 3=1:=by kernel_rfl
 clear hl hd h0 h1
 rw[c1]at e0 e1
 rcases cs with _ | ⟨x0,_ | ⟨x1,_ | ⟨x2,r⟩⟩⟩
 . cases hl2
 . cases hl2
 . have q0:x0=.int .i64 a':=by injection e0
   have q1:x1=.int .i64 b':=by injection e1
   rw[q0,q1]
 . simp at hl2
theorem zrL{f:Nat}{cs:List Value}{e a b:Int}{p:List MemPlace}(hd:DataW.trod enc Tryz.prog w 0 sp held f 194 cs=some (.agg [.lit (.int .i64 e),.agg [.lit (.int .i64 a),.lit (.int .i64 b)]],p)):cs=[.int .i64 e,.int .i64 a,.int .i64 b]:=by
 obtain ⟨y0,y1,n,hx,hl,h0,h1⟩:=trod_struct2 Tryz.underlying194 hd
 obtain ⟨e',e0,q0,_⟩:=DataW.trod_int (k:=.i64) (by kernel_rfl) h0
 subst q0
 obtain ⟨y1,p1⟩:=y1
 simp at hx
 obtain ⟨⟨he,rfl⟩,_⟩:=hx
 rw[he]
 have e1:=zkO h1
 have hl2:cs.length=3:=hl.trans (by kernel_rfl)
 have c1:Tryz.prog.cellsOf 50=1:=by kernel_rfl
 have c2:Tryz.prog.cellsOf 144=2:=by kernel_rfl
 clear hl hd h0 h1
 rw[c1]at e0
 rw[c2]at e1
 rcases cs with _ | ⟨x0,_ | ⟨x1,_ | ⟨x2,_ | ⟨x3,r⟩⟩⟩⟩
 . cases hl2
 . cases hl2
 . cases hl2
 . have q0:x0=.int .i64 e':=by injection e0
   have q1 : [x1,x2]=[.int .i64 a,.int .i64 b]:=e1
   rw[q0,q1]
 . simp at hl2
theorem zED{g:Nat}{t:Ty}{x:t.T}{cs:Array Value}(hc : ∀ j,w.cell? ⟨g,j,none⟩=cs[j]?)(hl:t.sz<=cs.size)(hp:0<t.sz)(hv : ∀ j,j<t.sz->D (fun b=>b<w.heap.size) w ((t.enc x).getD j .undef) (cs.getD j undef)):D (fun b=>b<w.heap.size) w (.el t [x] 0 0) (.pointer (some ⟨g,0,none⟩)):=by
 have h0:w.cell? ⟨g,0,none⟩=some (cs[0]'(by omega)):=by rw[hc 0,Array.getElem?_eq_getElem (by omega)]
 have hb:g<w.heap.size:=World.block_lt_of_cell? w _ h0
 refine .el t [x] 0 0 g 0 (fun j=>cs.getD j undef) (by simp) hb hb (fun j hj=>?_) (fun j hj=>hv j hj)
 rw[Nat.zero_add,hc j,Array.getElem?_eq_getElem (by omega)]
 simp[Array.getD,show j<cs.size by omega]
end
end Go.Proofs.YtgajeebphoiphaaGreatDoor
end
