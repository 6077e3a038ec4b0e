import Derived.Test.YtgajeebphoiphaaGreatDoorSF
import Derived.SizedLaws
import Derived.Carry
import Derived.DataOpen
import Derived.OpenShut
set_option linter.unusedVariables false
set_option linter.unusedSimpArgs false
noncomputable section
namespace Go.Proofs.YtgajeebphoiphaaGreatDoor
open Go.RowKit
def zrB:Ty->AV->Prop
 | .i k,x=>∃ n,x=.v (.int k n)
 | .b,x=>∃ b,x=.v (.bool b)
 | .s,x=>∃ s,x=.v (.string s)
 | .sl t,x=>∃ xs,x=.sl t xs
 | _,_=>False
inductive zjF:List Ty->List AV->Prop
 | nil:zjF [] []
 | cons {t:Ty} {x:AV} {ts:List Ty} {xs:List AV} (h:zrB t x) (h':zjF ts xs):zjF (t :: ts) (x :: xs)
theorem zV(t:Ty)(xs:List t.T):zaH t (.sl t xs)=some xs:=by
 simp only[zaH]
 split
 . rfl
 . rename_i h _;exact absurd rfl h
theorem zxB{t:Ty}(hd:t.dat=true){avs:List AV}(h:zjF t.leaves avs) : ∃ x,t.dec avs=some x:=by
 cases t
 . cases h with | cons h0 h=>(cases h;obtain ⟨y0,rfl⟩:=h0;simp[Ty.dec,zV];exact⟨_,rfl⟩)
 . cases h with | cons h0 h=>(cases h;obtain ⟨y0,rfl⟩:=h0;simp[Ty.dec,zV];exact⟨_,rfl⟩)
 . cases h with | cons h0 h=>(cases h;obtain ⟨y0,rfl⟩:=h0;simp[Ty.dec,zV];exact⟨_,rfl⟩)
 . cases hd
 . cases h with | cons h0 h=>(cases h;obtain ⟨y0,rfl⟩:=h0;simp[Ty.dec,zV];exact⟨_,rfl⟩)
 . cases hd
 . cases hd
 . cases hd
 . cases h with | cons h0 h =>  cases h with | cons h1 h =>  cases h with | cons h2 h=>(cases h;obtain ⟨y0,rfl⟩:=h0;obtain ⟨y1,rfl⟩:=h1;obtain ⟨y2,rfl⟩:=h2;simp[Ty.dec,zV];exact⟨_,rfl⟩)
 . cases h with | cons h0 h =>  cases h with | cons h1 h =>  cases h with | cons h2 h =>  cases h with | cons h3 h=>(cases h;obtain ⟨y0,rfl⟩:=h0;obtain ⟨y1,rfl⟩:=h1;obtain ⟨y2,rfl⟩:=h2;obtain ⟨y3,rfl⟩:=h3;simp[Ty.dec,zV];exact⟨_,rfl⟩)
 . cases h with | cons h0 h =>  cases h with | cons h1 h=>(cases h;obtain ⟨y0,rfl⟩:=h0;obtain ⟨y1,rfl⟩:=h1;simp[Ty.dec,zV];exact⟨_,rfl⟩)
 . cases h with | cons h0 h =>  cases h with | cons h1 h =>  cases h with | cons h2 h =>  cases h with | cons h3 h =>  cases h with | cons h4 h =>  cases h with | cons h5 h =>  cases h with | cons h6 h =>  cases h with | cons h7 h=>(cases h;obtain ⟨y0,rfl⟩:=h0;obtain ⟨y1,rfl⟩:=h1;obtain ⟨y2,rfl⟩:=h2;obtain ⟨y3,rfl⟩:=h3;obtain ⟨y4,rfl⟩:=h4;obtain ⟨y5,rfl⟩:=h5;obtain ⟨y6,rfl⟩:=h6;obtain ⟨y7,rfl⟩:=h7;simp[Ty.dec,zV];exact⟨_,rfl⟩)
 . cases h with | cons h0 h =>  cases h with | cons h1 h =>  cases h with | cons h2 h=>(cases h;obtain ⟨y0,rfl⟩:=h0;obtain ⟨y1,rfl⟩:=h1;obtain ⟨y2,rfl⟩:=h2;simp[Ty.dec,zV];exact⟨_,rfl⟩)
 . cases h with | cons h0 h =>  cases h with | cons h1 h =>  cases h with | cons h2 h =>  cases h with | cons h3 h =>  cases h with | cons h4 h =>  cases h with | cons h5 h =>  cases h with | cons h6 h=>(cases h;obtain ⟨y0,rfl⟩:=h0;obtain ⟨y1,rfl⟩:=h1;obtain ⟨y2,rfl⟩:=h2;obtain ⟨y3,rfl⟩:=h3;obtain ⟨y4,rfl⟩:=h4;obtain ⟨y5,rfl⟩:=h5;obtain ⟨y6,rfl⟩:=h6;simp[Ty.dec,zV];exact⟨_,rfl⟩)
 . cases h with | cons h0 h =>  cases h with | cons h1 h =>  cases h with | cons h2 h=>(cases h;obtain ⟨y0,rfl⟩:=h0;obtain ⟨y1,rfl⟩:=h1;obtain ⟨y2,rfl⟩:=h2;simp[Ty.dec,zV];exact⟨_,rfl⟩)
 . cases h with | cons h0 h =>  cases h with | cons h1 h =>  cases h with | cons h2 h =>  cases h with | cons h3 h =>  cases h with | cons h4 h =>  cases h with | cons h5 h =>  cases h with | cons h6 h =>  cases h with | cons h7 h =>  cases h with | cons h8 h=>(cases h;obtain ⟨y0,rfl⟩:=h0;obtain ⟨y1,rfl⟩:=h1;obtain ⟨y2,rfl⟩:=h2;obtain ⟨y3,rfl⟩:=h3;obtain ⟨y4,rfl⟩:=h4;obtain ⟨y5,rfl⟩:=h5;obtain ⟨y6,rfl⟩:=h6;obtain ⟨y7,rfl⟩:=h7;obtain ⟨y8,rfl⟩:=h8;simp[Ty.dec,zV];exact⟨_,rfl⟩)
 . cases h with | cons h0 h =>  cases h with | cons h1 h =>  cases h with | cons h2 h =>  cases h with | cons h3 h=>(cases h;obtain ⟨y0,rfl⟩:=h0;obtain ⟨y1,rfl⟩:=h1;obtain ⟨y2,rfl⟩:=h2;obtain ⟨y3,rfl⟩:=h3;simp[Ty.dec,zV];exact⟨_,rfl⟩)
 . cases h with | cons h0 h=>(cases h;obtain ⟨y0,rfl⟩:=h0;simp[Ty.dec,zV];exact⟨_,rfl⟩)
 . cases h with | cons h0 h =>  cases h with | cons h1 h =>  cases h with | cons h2 h =>  cases h with | cons h3 h =>  cases h with | cons h4 h=>(cases h;obtain ⟨y0,rfl⟩:=h0;obtain ⟨y1,rfl⟩:=h1;obtain ⟨y2,rfl⟩:=h2;obtain ⟨y3,rfl⟩:=h3;obtain ⟨y4,rfl⟩:=h4;simp[Ty.dec,zV];exact⟨_,rfl⟩)
 . cases h with | cons h0 h =>  cases h with | cons h1 h =>  cases h with | cons h2 h=>(cases h;obtain ⟨y0,rfl⟩:=h0;obtain ⟨y1,rfl⟩:=h1;obtain ⟨y2,rfl⟩:=h2;simp[Ty.dec,zV];exact⟨_,rfl⟩)
 . cases h with | cons h0 h =>  cases h with | cons h1 h =>  cases h with | cons h2 h =>  cases h with | cons h3 h =>  cases h with | cons h4 h=>(cases h;obtain ⟨y0,rfl⟩:=h0;obtain ⟨y1,rfl⟩:=h1;obtain ⟨y2,rfl⟩:=h2;obtain ⟨y3,rfl⟩:=h3;obtain ⟨y4,rfl⟩:=h4;simp[Ty.dec,zV];exact⟨_,rfl⟩)
 . cases h with | cons h0 h =>  cases h with | cons h1 h =>  cases h with | cons h2 h =>  cases h with | cons h3 h=>(cases h;obtain ⟨y0,rfl⟩:=h0;obtain ⟨y1,rfl⟩:=h1;obtain ⟨y2,rfl⟩:=h2;obtain ⟨y3,rfl⟩:=h3;simp[Ty.dec,zV];exact⟨_,rfl⟩)
 . cases h with | cons h0 h =>  cases h with | cons h1 h =>  cases h with | cons h2 h =>  cases h with | cons h3 h =>  cases h with | cons h4 h =>  cases h with | cons h5 h =>  cases h with | cons h6 h =>  cases h with | cons h7 h =>  cases h with | cons h8 h =>  cases h with | cons h9 h =>  cases h with | cons h10 h=>(cases h;obtain ⟨y0,rfl⟩:=h0;obtain ⟨y1,rfl⟩:=h1;obtain ⟨y2,rfl⟩:=h2;obtain ⟨y3,rfl⟩:=h3;obtain ⟨y4,rfl⟩:=h4;obtain ⟨y5,rfl⟩:=h5;obtain ⟨y6,rfl⟩:=h6;obtain ⟨y7,rfl⟩:=h7;obtain ⟨y8,rfl⟩:=h8;obtain ⟨y9,rfl⟩:=h9;obtain ⟨y10,rfl⟩:=h10;simp[Ty.dec,zV];exact⟨_,rfl⟩)
 . cases h with | cons h0 h =>  cases h with | cons h1 h=>(cases h;obtain ⟨y0,rfl⟩:=h0;obtain ⟨y1,rfl⟩:=h1;simp[Ty.dec,zV];exact⟨_,rfl⟩)
 . cases hd
 . cases hd
 . cases hd
 . cases hd
 . cases hd
 . cases h with | cons h0 h =>  cases h with | cons h1 h =>  cases h with | cons h2 h =>  cases h with | cons h3 h =>  cases h with | cons h4 h =>  cases h with | cons h5 h =>  cases h with | cons h6 h =>  cases h with | cons h7 h =>  cases h with | cons h8 h =>  cases h with | cons h9 h =>  cases h with | cons h10 h=>(cases h;obtain ⟨y0,rfl⟩:=h0;obtain ⟨y1,rfl⟩:=h1;obtain ⟨y2,rfl⟩:=h2;obtain ⟨y3,rfl⟩:=h3;obtain ⟨y4,rfl⟩:=h4;obtain ⟨y5,rfl⟩:=h5;obtain ⟨y6,rfl⟩:=h6;obtain ⟨y7,rfl⟩:=h7;obtain ⟨y8,rfl⟩:=h8;obtain ⟨y9,rfl⟩:=h9;obtain ⟨y10,rfl⟩:=h10;simp[Ty.dec,zV];exact⟨_,rfl⟩)
 . cases h with | cons h0 h =>  cases h with | cons h1 h =>  cases h with | cons h2 h =>  cases h with | cons h3 h =>  cases h with | cons h4 h =>  cases h with | cons h5 h =>  cases h with | cons h6 h =>  cases h with | cons h7 h =>  cases h with | cons h8 h =>  cases h with | cons h9 h =>  cases h with | cons h10 h =>  cases h with | cons h11 h=>(cases h;obtain ⟨y0,rfl⟩:=h0;obtain ⟨y1,rfl⟩:=h1;obtain ⟨y2,rfl⟩:=h2;obtain ⟨y3,rfl⟩:=h3;obtain ⟨y4,rfl⟩:=h4;obtain ⟨y5,rfl⟩:=h5;obtain ⟨y6,rfl⟩:=h6;obtain ⟨y7,rfl⟩:=h7;obtain ⟨y8,rfl⟩:=h8;obtain ⟨y9,rfl⟩:=h9;obtain ⟨y10,rfl⟩:=h10;obtain ⟨y11,rfl⟩:=h11;simp[Ty.dec,zV];exact⟨_,rfl⟩)
 . cases h with | cons h0 h =>  cases h with | cons h1 h =>  cases h with | cons h2 h =>  cases h with | cons h3 h =>  cases h with | cons h4 h =>  cases h with | cons h5 h =>  cases h with | cons h6 h =>  cases h with | cons h7 h =>  cases h with | cons h8 h =>  cases h with | cons h9 h =>  cases h with | cons h10 h=>(cases h;obtain ⟨y0,rfl⟩:=h0;obtain ⟨y1,rfl⟩:=h1;obtain ⟨y2,rfl⟩:=h2;obtain ⟨y3,rfl⟩:=h3;obtain ⟨y4,rfl⟩:=h4;obtain ⟨y5,rfl⟩:=h5;obtain ⟨y6,rfl⟩:=h6;obtain ⟨y7,rfl⟩:=h7;obtain ⟨y8,rfl⟩:=h8;obtain ⟨y9,rfl⟩:=h9;obtain ⟨y10,rfl⟩:=h10;simp[Ty.dec,zV];exact⟨_,rfl⟩)
 . cases hd
 . cases h with | cons h0 h=>(cases h;obtain ⟨y0,rfl⟩:=h0;simp[Ty.dec,zV];exact⟨_,rfl⟩)
 . cases h with | cons h0 h=>(cases h;obtain ⟨y0,rfl⟩:=h0;simp[Ty.dec,zV];exact⟨_,rfl⟩)
 . cases hd
 . cases h with | cons h0 h =>  cases h with | cons h1 h =>  cases h with | cons h2 h =>  cases h with | cons h3 h =>  cases h with | cons h4 h =>  cases h with | cons h5 h =>  cases h with | cons h6 h =>  cases h with | cons h7 h =>  cases h with | cons h8 h =>  cases h with | cons h9 h=>(cases h;obtain ⟨y0,rfl⟩:=h0;obtain ⟨y1,rfl⟩:=h1;obtain ⟨y2,rfl⟩:=h2;obtain ⟨y3,rfl⟩:=h3;obtain ⟨y4,rfl⟩:=h4;obtain ⟨y5,rfl⟩:=h5;obtain ⟨y6,rfl⟩:=h6;obtain ⟨y7,rfl⟩:=h7;obtain ⟨y8,rfl⟩:=h8;obtain ⟨y9,rfl⟩:=h9;simp[Ty.dec,zV];exact⟨_,rfl⟩)
 . cases h with | cons h0 h =>  cases h with | cons h1 h =>  cases h with | cons h2 h =>  cases h with | cons h3 h =>  cases h with | cons h4 h =>  cases h with | cons h5 h =>  cases h with | cons h6 h =>  cases h with | cons h7 h =>  cases h with | cons h8 h =>  cases h with | cons h9 h =>  cases h with | cons h10 h =>  cases h with | cons h11 h =>  cases h with | cons h12 h =>  cases h with | cons h13 h =>  cases h with | cons h14 h =>  cases h with | cons h15 h=>(cases h;obtain ⟨y0,rfl⟩:=h0;obtain ⟨y1,rfl⟩:=h1;obtain ⟨y2,rfl⟩:=h2;obtain ⟨y3,rfl⟩:=h3;obtain ⟨y4,rfl⟩:=h4;obtain ⟨y5,rfl⟩:=h5;obtain ⟨y6,rfl⟩:=h6;obtain ⟨y7,rfl⟩:=h7;obtain ⟨y8,rfl⟩:=h8;obtain ⟨y9,rfl⟩:=h9;obtain ⟨y10,rfl⟩:=h10;obtain ⟨y11,rfl⟩:=h11;obtain ⟨y12,rfl⟩:=h12;obtain ⟨y13,rfl⟩:=h13;obtain ⟨y14,rfl⟩:=h14;obtain ⟨y15,rfl⟩:=h15;simp[Ty.dec,zV];exact⟨_,rfl⟩)
 . cases h with | cons h0 h =>  cases h with | cons h1 h =>  cases h with | cons h2 h =>  cases h with | cons h3 h =>  cases h with | cons h4 h =>  cases h with | cons h5 h =>  cases h with | cons h6 h =>  cases h with | cons h7 h =>  cases h with | cons h8 h =>  cases h with | cons h9 h =>  cases h with | cons h10 h =>  cases h with | cons h11 h =>  cases h with | cons h12 h =>  cases h with | cons h13 h =>  cases h with | cons h14 h =>  cases h with | cons h15 h =>  cases h with | cons h16 h=>(cases h;obtain ⟨y0,rfl⟩:=h0;obtain ⟨y1,rfl⟩:=h1;obtain ⟨y2,rfl⟩:=h2;obtain ⟨y3,rfl⟩:=h3;obtain ⟨y4,rfl⟩:=h4;obtain ⟨y5,rfl⟩:=h5;obtain ⟨y6,rfl⟩:=h6;obtain ⟨y7,rfl⟩:=h7;obtain ⟨y8,rfl⟩:=h8;obtain ⟨y9,rfl⟩:=h9;obtain ⟨y10,rfl⟩:=h10;obtain ⟨y11,rfl⟩:=h11;obtain ⟨y12,rfl⟩:=h12;obtain ⟨y13,rfl⟩:=h13;obtain ⟨y14,rfl⟩:=h14;obtain ⟨y15,rfl⟩:=h15;obtain ⟨y16,rfl⟩:=h16;simp[Ty.dec,zV];exact⟨_,rfl⟩)
 . cases hd
 . cases h with | cons h0 h =>  cases h with | cons h1 h =>  cases h with | cons h2 h=>(cases h;obtain ⟨y0,rfl⟩:=h0;obtain ⟨y1,rfl⟩:=h1;obtain ⟨y2,rfl⟩:=h2;simp[Ty.dec,zV];exact⟨_,rfl⟩)
 . cases h with | cons h0 h =>  cases h with | cons h1 h =>  cases h with | cons h2 h=>(cases h;obtain ⟨y0,rfl⟩:=h0;obtain ⟨y1,rfl⟩:=h1;obtain ⟨y2,rfl⟩:=h2;simp[Ty.dec,zV];exact⟨_,rfl⟩)
 . cases h with | cons h0 h =>  cases h with | cons h1 h=>(cases h;obtain ⟨y0,rfl⟩:=h0;obtain ⟨y1,rfl⟩:=h1;simp[Ty.dec,zV];exact⟨_,rfl⟩)
 . cases h with | cons h0 h =>  cases h with | cons h1 h=>(cases h;obtain ⟨y0,rfl⟩:=h0;obtain ⟨y1,rfl⟩:=h1;simp[Ty.dec,zV];exact⟨_,rfl⟩)
 . cases h with | cons h0 h =>  cases h with | cons h1 h =>  cases h with | cons h2 h =>  cases h with | cons h3 h =>  cases h with | cons h4 h=>(cases h;obtain ⟨y0,rfl⟩:=h0;obtain ⟨y1,rfl⟩:=h1;obtain ⟨y2,rfl⟩:=h2;obtain ⟨y3,rfl⟩:=h3;obtain ⟨y4,rfl⟩:=h4;simp[Ty.dec,zV];exact⟨_,rfl⟩)
 . cases h with | cons h0 h =>  cases h with | cons h1 h =>  cases h with | cons h2 h=>(cases h;obtain ⟨y0,rfl⟩:=h0;obtain ⟨y1,rfl⟩:=h1;obtain ⟨y2,rfl⟩:=h2;simp[Ty.dec,zV];exact⟨_,rfl⟩)
 . cases h with | cons h0 h =>  cases h with | cons h1 h=>(cases h;obtain ⟨y0,rfl⟩:=h0;obtain ⟨y1,rfl⟩:=h1;simp[Ty.dec,zV];exact⟨_,rfl⟩)
 . cases h with | cons h0 h =>  cases h with | cons h1 h =>  cases h with | cons h2 h=>(cases h;obtain ⟨y0,rfl⟩:=h0;obtain ⟨y1,rfl⟩:=h1;obtain ⟨y2,rfl⟩:=h2;simp[Ty.dec,zV];exact⟨_,rfl⟩)
 . cases h with | cons h0 h =>  cases h with | cons h1 h =>  cases h with | cons h2 h =>  cases h with | cons h3 h=>(cases h;obtain ⟨y0,rfl⟩:=h0;obtain ⟨y1,rfl⟩:=h1;obtain ⟨y2,rfl⟩:=h2;obtain ⟨y3,rfl⟩:=h3;simp[Ty.dec,zV];exact⟨_,rfl⟩)
 . cases h with | cons h0 h =>  cases h with | cons h1 h =>  cases h with | cons h2 h=>(cases h;obtain ⟨y0,rfl⟩:=h0;obtain ⟨y1,rfl⟩:=h1;obtain ⟨y2,rfl⟩:=h2;simp[Ty.dec,zV];exact⟨_,rfl⟩)
 . cases h with | cons h0 h =>  cases h with | cons h1 h =>  cases h with | cons h2 h=>(cases h;obtain ⟨y0,rfl⟩:=h0;obtain ⟨y1,rfl⟩:=h1;obtain ⟨y2,rfl⟩:=h2;simp[Ty.dec,zV];exact⟨_,rfl⟩)
 . cases h with | cons h0 h =>  cases h with | cons h1 h=>(cases h;obtain ⟨y0,rfl⟩:=h0;obtain ⟨y1,rfl⟩:=h1;simp[Ty.dec,zV];exact⟨_,rfl⟩)
 . cases h with | cons h0 h =>  cases h with | cons h1 h =>  cases h with | cons h2 h=>(cases h;obtain ⟨y0,rfl⟩:=h0;obtain ⟨y1,rfl⟩:=h1;obtain ⟨y2,rfl⟩:=h2;simp[Ty.dec,zV];exact⟨_,rfl⟩)
def zfL(P:Program)(id:TypeId):Option Ty:=
 match P.underlying id with
 | some (.int k)=>some (.i k)
 | some .bool=>some .b
 | some .string=>some .s
 | some (.slice e)=>match zdQ e with | some t=>(match t.dat with | true=>some (.sl t) | false=>none) | none=>none
 | _=>none
def zrZ(f:TypeId->Option (List TypeId))(P:Program):List Field->Nat->Option (List TypeId)
 | [],_=>some []
 | fl :: r,off=>match f fl.type with
  | some ls=>match Nat.beq fl.offset off,Nat.beq (P.cellsOf fl.type) ls.length,zrZ f P r (off+ls.length)with
   | true,true,some rest=>some (ls++rest)
   | _,_,_=>none
  | none=>none
def flat(P:Program):Nat->TypeId->Option (List TypeId)
 | 0,_=>none
 | n+1,t=>match P.underlying t with
  | some (.struct fs)=>match zrZ (flat P n) P fs.toList 0 with
   | some ls=>match Nat.beq (P.cellsOf t) ls.length with | true=>some ls | false=>none
   | none=>none
  | some (.array m e)=>match flat P n e with
   | some ls=>match Nat.beq (P.cellsOf e) ls.length,Nat.beq (P.cellsOf t) (m*ls.length)with | true,true=>some (List.replicate m ls).flatten | _,_=>none
   | none=>none
  | some (.int _)=>some [t]
  | some .bool=>some [t]
  | some .string=>some [t]
  | some (.slice _)=>some [t]
  | _=>none
theorem ziW{α γ:Type}{f:α->Option γ} : ∀ {l:List α} {ys:List γ},l.mapM f=some ys->ys.length=l.length/\∀ (i:Nat) (x:α),l[i]?=some x->∃ y,f x=some y/\ys[i]?=some y
 | [],ys,h=>by simp at h;subst h;simp
 | a :: l,ys,h=>by
  rw[List.mapM_cons]at h
  cases ha:f a with
  | none=>simp[ha]at h
  | some y=>
   cases hl:l.mapM f with
   | none=>simp[ha,hl]at h
   | some ys'=>
    simp[ha,hl]at h;subst h
    obtain ⟨h1,h2⟩:=ziW hl
    refine⟨by simp[h1],fun i x hx=>?_⟩
    cases i with
    | zero=>simp at hx;subst hx;exact⟨y,ha,by simp⟩
    | succ i=>simpa using h2 i x (by simpa using hx)
section
variable {H:Type} {enc:TypeId × Value->H} {P:Program} {w:World} {sp:Nat->Bool}
def Small(P:Program)(d:DataW H)(t:TypeId):Prop:=∀ k ∈ d.weights P t,k<=reachBytes
def Leafy(enc:TypeId × Value->H)(P:Program)(w:World)(sp:Nat->Bool)(fuel:Nat)(id:TypeId)(c:Value):Prop:=∃ fuel' x',fuel'<=fuel/\DataW.trod enc P w 0 sp true fuel' id [c]=some x'/\Small P x'.1 id
theorem Leafy.mono{f f':Nat}(hf:f<=f'){id:TypeId}{c:Value}(h:Leafy enc P w sp f id c):Leafy enc P w sp f' id c:=by
 obtain ⟨g,x,h1,h2,h3⟩:=h;exact⟨g,x,by omega,h2,h3⟩
theorem zBt{fuel:Nat}{t:TypeId}{cs:List Value}{x:DataW H × List MemPlace}(h:DataW.trod enc P w 0 sp true fuel t cs=some x)(hs:Small P x.1 t)(hl:cs.length=1):cs.length=[t].length/\∀ j,j < [t].length->Leafy enc P w sp fuel ([t].getD j 0) (cs.getD j undef):=by
 refine⟨hl,fun j hj=>?_⟩
 have:j=0:=by simp at hj;exact hj
 subst this
 rcases cs with _ | ⟨c,_ | ⟨c',r⟩⟩
 . simp at hl
 . exact⟨fuel,x,Nat.le_refl _,h,hs⟩
 . simp at hl
theorem zjD(t:TypeId)(ts:List TypeId)(d:DataW H)(ds:List (DataW H)):DataW.weightsEach P (t :: ts) (d :: ds)=d.weights P t++DataW.weightsEach P ts ds:=by simp[DataW.weightsEach]
theorem zoD : ∀ (n : Nat) (t:TypeId) (ls:List TypeId),flat P n t=some ls->∀ (fuel:Nat) (cs:List Value) (x:DataW H × List MemPlace),DataW.trod enc P w 0 sp true fuel t cs=some x->Small P x.1 t->
 cs.length=ls.length/\∀ j,j<ls.length->Leafy enc P w sp fuel (ls.getD j 0) (cs.getD j undef)
 | 0,t,ls,h,_,_,_,_,_=>by simp[flat]at h
 | n+1,t,ls,h,0,cs,x,hx,hs=>by simp[DataW.trod]at hx
 | n + 1, t, ls, h,fuel+1,cs,x,hx,hs=>by
  have ih:=zoD n
  simp only[flat]at h
  split at h
  . rename_i fs hu
    split at h
    . rename_i ls' hls
      split at h
      . rename_i hc
        simp at h;subst h
        have hc:=Nat.eq_of_beq_eq_true hc
        simp only[DataW.trod,hu]at hx
        split at hx
        . rename_i hlen
          cases hm:fs.toList.mapM fun f=>DataW.trod enc P w 0 sp true fuel f.type ((cs.drop f.offset).take (P.cellsOf f.type))with
          | none=>simp[hm]at hx
          | some xs=>
           simp[hm]at hx;subst hx
           refine⟨by omega,?_⟩
           have hs' : ∀ k ∈ DataW.weightsEach P (fs.toList.map (·.type)) (xs.map (·.1)),k<=reachBytes:=fun k hk=>hs k (by simp only[DataW.weights,hu];exact hk)
           have go : ∀ (l:List Field) (off:Nat) (ls:List TypeId) (xs:List (DataW H × List MemPlace)),zrZ (flat P n) P l off=some ls->l.mapM (fun f=>DataW.trod enc P w 0 sp true fuel f.type ((cs.drop f.offset).take (P.cellsOf f.type)))=some xs->
            (∀ k ∈ DataW.weightsEach P (l.map (·.type)) (xs.map (·.1)),k<=reachBytes)->∀ j,j<ls.length->Leafy enc P w sp fuel (ls.getD j 0) (cs.getD (off+j) undef):=by
            intro l
            induction l with
            | nil=>intro off ls xs hf _ _ j hj;simp[zrZ]at hf;subst hf;simp at hj
            | cons fl r ihl=>
             intro off ls xs hf hm hw j hj
             simp only[zrZ]at hf
             split at hf
             . rename_i l1 h1
               split at hf
               . rename_i rest e1 e2 h2
                 simp at hf;subst hf
                 have e1:=Nat.eq_of_beq_eq_true e1
                 have e2:=Nat.eq_of_beq_eq_true e2
                 rw[List.mapM_cons]at hm
                 cases ha:DataW.trod enc P w 0 sp true fuel fl.type ((cs.drop fl.offset).take (P.cellsOf fl.type))with
                 | none=>simp[ha]at hm
                 | some y=>
                  cases hb:r.mapM (fun f=>DataW.trod enc P w 0 sp true fuel f.type ((cs.drop f.offset).take (P.cellsOf f.type)))with
                  | none=>simp[ha,hb]at hm
                  | some ys=>
                   simp[ha,hb]at hm;subst hm
                   simp only[List.map_cons,zjD,List.mem_append]at hw
                   obtain ⟨k1,k2⟩:=ih fl.type l1 h1 fuel _ y ha (fun k hk=>hw k (.inl hk))
                   by_cases hj1:j<l1.length
                   . have:=(k2 j hj1).mono (Nat.le_refl _)
                     have e3:(l1++rest).getD j 0=l1.getD j 0:=by simp[List.getD,List.getElem?_append_left hj1]
                     have e4:((cs.drop fl.offset).take (P.cellsOf fl.type)).getD j undef=cs.getD (off+j) undef:=by
                      simp only[List.getD,List.getElem?_take,List.getElem?_drop,e2,hj1,if_true,e1]
                     rw[e3,← e4];exact this
                   . have:=ihl (off+l1.length) rest ys h2 hb (fun k hk=>hw k (.inr hk)) (j-l1.length) (by simp at hj;omega)
                     have e3:(l1++rest).getD j 0=rest.getD (j-l1.length) 0:=by simp[List.getD,List.getElem?_append_right (Nat.le_of_not_lt hj1)]
                     rw[e3]
                     rwa [show off+l1.length+(j-l1.length)=off+j by omega]at this
               . cases hf
             . cases hf
           intro j hj
           have:=go fs.toList 0 ls' xs hls hm hs' j hj
           rw[Nat.zero_add]at this
           exact this.mono (by omega)
        . cases hx
      . cases h
    . cases h
  . rename_i m e hu
    split at h
    . rename_i ls' hls
      split at h
      . rename_i e1 e2
        simp at h;subst h
        have e1:=Nat.eq_of_beq_eq_true e1
        have e2:=Nat.eq_of_beq_eq_true e2
        simp only[DataW.trod,hu]at hx
        split at hx
        . rename_i hlen
          cases hm:(List.range m).mapM fun i=>DataW.trod enc P w 0 sp true fuel e ((cs.drop (i*P.cellsOf e)).take (P.cellsOf e))with
          | none=>simp[hm]at hx
          | some xs=>
           simp[hm]at hx;subst hx
           obtain ⟨hxl,hxg⟩:=ziW hm
           have hfl : ∀ (q:Nat),(List.replicate q ls').flatten.length=q*ls'.length:=fun q=>by simp
           have hfg : ∀ (q j:Nat),j<q*ls'.length->(List.replicate q ls').flatten.getD j 0=ls'.getD (j % ls'.length) 0:=by
            intro q
            induction q with
            | zero=>intro j hj;simp at hj
            | succ q ihq=>
             intro j hj
             simp only[List.replicate_succ,List.flatten_cons,List.getD]
             by_cases hjs:j<ls'.length
             . rw[List.getElem?_append_left hjs,Nat.mod_eq_of_lt hjs]
             . rw[List.getElem?_append_right (by omega)]
               have:=ihq (j-ls'.length) (by rw[Nat.add_mul,Nat.one_mul]at hj;omega)
               simp only[List.getD]at this
               rw[this,← Nat.mod_eq_sub_mod (by omega)]
           refine⟨by rw[hfl];omega,fun j hj=>?_⟩
           rw[hfl]at hj
           have hpos:0<ls'.length:=by
            rcases Nat.eq_zero_or_pos ls'.length with h0 | h0
            . rw[h0]at hj;simp at hj
            . exact h0
           have hq:j / ls'.length<m:=Nat.div_lt_of_lt_mul (by rw[Nat.mul_comm];exact hj)
           obtain ⟨y,hy,hyg⟩:=hxg (j / ls'.length) (j / ls'.length) (by simp[hq])
           have hw:Small P y.1 e:=fun k hk=>hs k (by
            simp only[DataW.weights,hu]
            have : ∀ (l:List (DataW H)),y.1 ∈ l->k ∈ DataW.weightsAll P e l:=by
             intro l
             induction l with
             | nil=>intro h;cases h
             | cons d r ihr=>
              intro h
              simp only[DataW.weightsAll,List.mem_append]
              rcases List.mem_cons.1 h with h | h
              . subst h;exact .inl hk
              . exact .inr (ihr h)
            exact this _ (List.mem_map.2 ⟨y,List.mem_of_getElem? hyg,rfl⟩))
           obtain ⟨k1,k2⟩:=ih e ls' hls fuel _ y hy hw
           have hmod:=Nat.mod_lt j hpos
           have:=(k2 (j % ls'.length) hmod).mono (Nat.le_succ fuel)
           rw[hfg m j hj]
           have e4:((cs.drop (j / ls'.length*P.cellsOf e)).take (P.cellsOf e)).getD (j % ls'.length) undef=cs.getD j undef:=by
            simp only[List.getD,List.getElem?_take,List.getElem?_drop,e1,hmod,if_true]
            rw[Nat.mul_comm,Nat.div_add_mod]
           rw[← e4];exact this
        . cases hx
      . cases h
    . cases h
  all_goals first
   | (rename_i hu
      simp at h;subst h
      refine zBt hx hs ?_
      rcases cs with _ | ⟨c,_ | ⟨c',r⟩⟩
      . simp[DataW.trod,hu]at hx
      . rfl
      . simp[DataW.trod,hu]at hx)
   | cases h
def zyI(P:Program):Prop:=∀ id t,zdQ id=some t->t.dat=true->∃ ls,flat P 8 id=some ls/\ls.mapM (zfL P)=some t.leaves/\0<P.bytesOf id/\P.bytesOf id=t.by
inductive Fit:AV->Prop
 | int (k:IntKind) (n:Int) (h0:k.min<=n) (h1:n<=k.max):Fit (.v (.int k n))
 | bool (b:Bool):Fit (.v (.bool b))
 | str (s:ByteArray) (h:s.size<=maxLen):Fit (.v (.string s))
 | sl (t:Ty) (xs:List t.T) (hl:xs.length*t.by<=140737488351232) (h : ∀ i j,i<xs.length->j<t.sz->Fit ((t.enc (nth xs i)).getD j .undef)):Fit (.sl t xs)
theorem Fit.nil(t:Ty):Fit (.sl t []):=.sl t [] (by simp) (fun i j hi=>by simp at hi)
theorem zHQ{c d:AV}{l:Ty}(h:kp c d)(hs:zrB l c)(hf:Fit c):Fit d:=by
 cases hf with
 | int k n h0 h1=>rw[h.2.2 rfl];exact .int k n h0 h1
 | bool b=>rw[h.2.2 rfl];exact .bool b
 | str s hh=>rw[h.2.2 rfl];exact .str s hh
 | sl t xs hl hh=>rw[h.1 t xs rfl];exact .sl t xs hl hh
abbrev All(w:World):Nat->Prop:=fun b=>b<w.heap.size
theorem zAU {fuel:Nat} (ih : ∀ f,f<fuel->∀ (id:TypeId) (t:Ty) (cs:List Value) (x:DataW H × List MemPlace),zdQ id=some t->t.dat=true->DataW.trod enc P w 0 sp true f id cs=some x->Small P x.1 id->cs.length=t.sz/\∃ y:t.T,∀ j,j<t.sz->D (All w) w ((t.enc y).getD j .undef) (cs.getD j undef)/\Fit ((t.enc y).getD j .undef))
 (hg:zyI P) {id:TypeId} {c:Value} {l:Ty} (hl:zfL P id=some l) (h:Leafy enc P w sp fuel id c) : ∃ av,zrB l av/\D (All w) w av c/\Fit av:=by
 obtain ⟨fuel',x,hle,hx,hs⟩:=h
 cases fuel' with
 | zero=>simp[DataW.trod]at hx
 | succ f =>
  unfold zfL at hl
  split at hl
  . rename_i k hu
    simp at hl;subst hl
    cases c <;> simp[DataW.trod,hu]at hx
    rename_i k' n
    obtain ⟨⟨rfl,hwf⟩,_⟩:=hx
    simp only[Lit.wf,Bool.and_eq_true,decide_eq_true_eq]at hwf
    exact⟨.v (.int k' n),⟨n,rfl⟩,.v _,.int _ _ hwf.1 hwf.2⟩
  . rename_i hu
    simp at hl;subst hl
    cases c <;> simp[DataW.trod,hu]at hx
    rename_i b
    exact⟨.v (.bool b),⟨b,rfl⟩,.v _,.bool _⟩
  . rename_i hu
    simp at hl;subst hl
    cases c <;> simp[DataW.trod,hu]at hx
    rename_i b
    exact⟨.v (.string b),⟨b,rfl⟩,.v _,.str _ hx.1⟩
  . rename_i e hu
    cases ht:zdQ e with
    | none=>simp[ht]at hl
    | some t' =>
     rw[ht]at hl
     cases hdat:t'.dat with
     | false=>simp[hdat]at hl
     | true=>
     simp[hdat]at hl;subst hl
     have hc:(∃ n,c=.slice none 0 n) ∨ ∃ a len cap,c=.slice (some a) len cap:=by
      cases c <;> simp[DataW.trod,hu]at hx ⊢
      rename_i A len cap
      cases A with
      | some a=>exact .inr ⟨a,rfl⟩
      | none=>
       rcases len with _ | len
       . exact .inl ⟨rfl,rfl⟩
       . simp[DataW.trod,hu]at hx
     rcases hc with ⟨n,rfl⟩ | ⟨a,len,cap,rfl⟩
     . exact⟨.sl t' [],⟨[],rfl⟩,.sl0 t' none n,.nil t'⟩
     . simp only [DataW.trod,hu]at hx
       split at hx
       . rename_i hcap
         obtain ⟨hb0,hlc,hcm⟩:=hcap
         cases hm:(List.range len).mapM fun i=>(w.cells? 0 (a.add (i*P.cellsOf e)) (P.cellsOf e)).bind (DataW.trod enc P w 0 sp true f e)with
         | none=>simp[hm]at hx
         | some elems=>
          rw[hm]at hx
          simp only[Option.bind_some]at hx
          obtain ⟨rest,hrest,rfl⟩:=Option.map_eq_some_iff.1 hx
          obtain ⟨hel,heg⟩:=ziW hm
          simp only[List.length_range]at hel
          have hsl:Small P (.slice (elems.map (·.1)) (rest.map (·.1)):DataW H) id:=hs
          have hbytes:(elems.length+rest.length)*P.bytesOf e<=reachBytes:=by
           have:=hsl ((elems.length+rest.length)*P.bytesOf e) (by simp[DataW.weights,hu])
           exact this
          obtain ⟨ls,_,_,hbe,hby⟩:=hg e t' ht hdat
          have hlen47:len<=140737488355328:=by
           have h1:elems.length+rest.length<=(elems.length+rest.length)*P.bytesOf e:=Nat.le_mul_of_pos_right _ hbe
           simp only[reachBytes]at hbytes
           omega
          rcases Nat.eq_zero_or_pos len with h0 | hpos
          . subst h0
            exact⟨.sl t' [],⟨[],rfl⟩,.sl0 t' _ cap,.nil t'⟩
          . have hall : ∀ i,i<len->∃ ci:List Value,ci.length=P.cellsOf e/\(∀ j,j<P.cellsOf e->w.cell? ((a.add (i*P.cellsOf e)).add j)=ci[j]?)/\ci.length=t'.sz/\∃ y:t'.T,∀ j,j<t'.sz->D (All w) w ((t'.enc y).getD j .undef) (ci.getD j undef)/\Fit ((t'.enc y).getD j .undef):=by
             intro i hi
             obtain ⟨z,hz,hzg⟩:=heg i i (by simp[hi])
             cases hci:w.cells? 0 (a.add (i*P.cellsOf e)) (P.cellsOf e)with
             | none=>simp[hci]at hz
             | some ci=>
              rw[hci]at hz
              simp only[Option.bind_some]at hz
              obtain ⟨_,hcl,hcc⟩:=World.cells?_some hci
              have hw:Small P z.1 e:=fun k hk=>hsl k (by
               have : ∀ (l:List (DataW H)),z.1 ∈ l->k ∈ DataW.weightsAll P e l:=by
                intro l
                induction l with
                | nil=>intro h;cases h
                | cons d r ihr=>
                 intro h
                 simp only[DataW.weightsAll,List.mem_append]
                 rcases List.mem_cons.1 h with h | h
                 . subst h;exact .inl hk
                 . exact .inr (ihr h)
               simp only[DataW.weights,hu,List.mem_cons,List.mem_append]
               exact .inr (.inl (this _ (List.mem_map.2 ⟨z,List.mem_of_getElem? hzg,rfl⟩))))
              obtain ⟨q1,q2⟩:=ih f (by omega) e t' ci z ht hdat hz hw
              exact⟨ci,hcl,hcc,q1,q2⟩
            have hsz:P.cellsOf e=t'.sz:=by obtain ⟨ci,h1,_,h2,_⟩:=hall 0 hpos;omega
            have hsp:=zbw t'
            have hspot:a.spot=none/\a.block<w.heap.size:=by
             obtain ⟨ci,h1,h2,h3,_⟩:=hall 0 hpos
             have:=h2 0 (by omega)
             rw[List.getElem?_eq_getElem (by omega)]at this
             have hblk:=World.block_lt_of_cell? w _ this
             have hba:((a.add (0*P.cellsOf e)).add 0).block=a.block:=by unfold Addr.add;repeat (split <;> try rfl)
             refine⟨?_,by rw[← hba];exact hblk⟩
             cases hsp':a.spot with
             | none=>rfl
             | some s=>
              exfalso
              have hss:((a.add (0*P.cellsOf e)).add 0).spot.isSome=true:=by
               unfold Addr.add
               repeat (split <;> try simp_all)
              unfold World.cell? at this
              split at this
              . rw[if_pos hss]at this;cases this
              . cases this
            obtain ⟨hsn,hblt⟩:=hspot
            obtain ⟨b,o,s⟩:=a
            simp only at hsn hblt
            subst hsn
            have hch:=fun i (hi:i<len)=>Classical.choose_spec (hall i hi)
            let cf:Nat->List Value:=fun i=>if hi:i<len then Classical.choose (hall i hi)else []
            have hcf : ∀ i,(hi:i<len)->(∀ j,j<t'.sz->w.cell? ⟨b,o+(i*t'.sz+j),none⟩=(cf i)[j]?)/\(cf i).length=t'.sz/\∃ y:t'.T,∀ j,j<t'.sz->D (All w) w ((t'.enc y).getD j .undef) ((cf i).getD j undef)/\Fit ((t'.enc y).getD j .undef):=by
             intro i hi
             have:=hch i hi
             have e1:cf i=Classical.choose (hall i hi):=by simp[cf,hi]
             rw[← e1]at this
             obtain ⟨h1,h2,h3,h4⟩:=this
             refine⟨fun j hj=>?_,h3,h4⟩
             have:=h2 j (by omega)
             rw[add_lit,add_lit,hsz,Nat.add_assoc]at this
             exact this
            let xf:Nat->t'.T:=fun i=>if hi:i<len then Classical.choose (hcf i hi).2.2 else default
            have hxf : ∀ i,(hi:i<len)->∀ j,j<t'.sz->D (All w) w ((t'.enc (xf i)).getD j .undef) ((cf i).getD j undef)/\Fit ((t'.enc (xf i)).getD j .undef):=by
             intro i hi
             have:=Classical.choose_spec (hcf i hi).2.2
             have e1:xf i=Classical.choose (hcf i hi).2.2:=by simp[xf,hi]
             rw[e1];exact this
            have hxl:((List.range len).map xf).length=len:=by simp
            refine⟨.sl t' ((List.range len).map xf),⟨_,rfl⟩,?_,.sl t' _ (by
             rw[hxl,← hby]
             have h1:len*P.bytesOf e<=(elems.length+rest.length)*P.bytesOf e:=Nat.mul_le_mul_right _ (by omega)
             simp only[reachBytes]at hbytes
             omega) fun i j hi hj=>by
              rw[hxl]at hi
              have e1:nth ((List.range len).map xf) i=xf i:=by simp[nth,List.getD,hi]
              rw[e1]
              exact(hxf i hi j hj).2⟩
            have:=V.sl (F:=All w) (w:=w) (β:=Gh.nil) t' ((List.range len).map xf) b o cap (fun i j=>(cf i).getD j undef) hblt hblt (by rw[hxl];exact hlen47) (by rw[hxl];exact hlc) (fun i j hi hj=>by
             rw[hxl]at hi
             obtain ⟨h1,h2,_⟩:=hcf i hi
             rw[h1 j hj,List.getElem?_eq_getElem (by omega)]
             simp[List.getD,show j<(cf i).length by omega]) (fun i j hi hj=>by
             rw[hxl]at hi
             have e1:nth ((List.range len).map xf) i=xf i:=by simp[nth,List.getD,hi]
             rw[e1]
             exact(hxf i hi j hj).1)
            rw[hxl]at this
            exact this
       . cases hx
  . cases hl
theorem zsf{fuel:Nat} : ∀ (ls:List TypeId) (lv:List Ty) (cs:List Value) (off:Nat),ls.mapM (zfL P)=some lv->(∀ j,j<ls.length->∀ l,zfL P (ls.getD j 0)=some l->∃ av,zrB l av/\D (All w) w av (cs.getD (off+j) undef)/\Fit av)->∃ avs,zjF lv avs/\∀ j,j<ls.length->D (All w) w (avs.getD j .undef) (cs.getD (off+j) undef)/\Fit (avs.getD j .undef)/\∃ l,zrB l (avs.getD j .undef)
 | [],lv,cs,off,hm,h=>by simp at hm;subst hm;exact⟨[],.nil,fun j hj=>by simp at hj⟩
 | id :: ls,lv,cs,off,hm,h=>by
  rw[List.mapM_cons]at hm
  cases ha:zfL P id with
  | none=>simp[ha]at hm
  | some l=>
   cases hb:ls.mapM (zfL P)with
   | none=>simp[ha,hb]at hm
   | some lv'=>
    simp[ha,hb]at hm;subst hm
    obtain ⟨av,s1,d1,f1⟩:=h 0 (by simp) l (by simpa using ha)
    obtain ⟨avs,s2,d2⟩:=zsf (fuel:=fuel) ls lv' cs (off+1) hb (fun j hj l hl=>by
     have:=h (j+1) (by simpa using hj) l (by simpa using hl)
     rwa [show off+(j+1)=off+1+j by omega]at this)
    refine⟨av :: avs,.cons s1 s2,fun j hj=>?_⟩
    cases j with
    | zero=>simpa using ⟨d1,f1,l,s1⟩
    | succ j=>
     have:=d2 j (by simpa using hj)
     rw[show off+1+j=off+(j+1)by omega]at this
     simpa using this
theorem zyC(hg:zyI P) : ∀ (fuel:Nat) (id:TypeId) (t:Ty) (cs:List Value) (x:DataW H × List MemPlace),zdQ id=some t->t.dat=true->DataW.trod enc P w 0 sp true fuel id cs=some x->Small P x.1 id->
 cs.length=t.sz/\∃ y:t.T,∀ j,j<t.sz->D (All w) w ((t.enc y).getD j .undef) (cs.getD j undef)/\Fit ((t.enc y).getD j .undef):=by
 intro fuel
 induction fuel using Nat.strongRecOn with
 | ind fuel ih=>
  intro id t cs x ht hdat hx hs
  obtain ⟨ls,h1,h2,_⟩:=hg id t ht hdat
  obtain ⟨k1,k2⟩:=zoD 8 id ls h1 fuel cs x hx hs
  obtain ⟨avs,s1,d1⟩:=zsf (P:=P) (w:=w) (fuel:=fuel) ls t.leaves cs 0 h2 (fun j hj l hl=>by
   rw[Nat.zero_add]
   exact zAU ih hg hl (k2 j hj))
  obtain ⟨y,hy⟩:=zxB hdat s1
  obtain ⟨q1,q2⟩:=zbm (F:=All w) (w:=w) (β:=Gh.nil) hy
  have hlen:ls.length=avs.length:=by
   have h3 : ∀ {lv:List Ty} {as:List AV},zjF lv as->as.length=lv.length:=by
    intro lv as h
    induction h with
    | nil=>rfl
    | cons _ _ ih=>simp[ih]
   obtain ⟨h4,_⟩:=ziW h2
   rw[h3 s1,h4]
  refine⟨by omega,y,fun j hj=>?_⟩
  obtain ⟨g1,g2,l,g3⟩:=d1 j (by omega)
  rw[Nat.zero_add]at g1
  exact⟨q2 j _ (by omega) g1,zHQ (zen hy j (by omega)) g3 g2⟩
theorem zru(hg:zyI P){id e:TypeId}{t:Ty}(hu:P.underlying id=some (.slice e))(ht:zdQ e=some t)(hdat:t.dat=true){v:Value}{d:DataW H}{p:List MemPlace}{r:Reach}{base:Nat}(hv:Value.okWide P w r base id v)(h:DataW.Trod enc P w 0 sp true id v d p)(hs:Small P d id) : ∃ xs:List t.T,D (All w) w (.sl t xs) v/\Fit (.sl t xs):=by
 obtain ⟨fuel,hx⟩:=h
 have hc:v.cells.toList=[v]:=by
  cases v <;> first | rfl | (simp[Value.okWide,Cell.okWide,Cell.ok,hu]at hv)
 rw[hc]at hx
 obtain ⟨av,s,hd,hf⟩:=zAU (l:=.sl t) (fun f hf=>zyC hg f) hg (by simp[zfL,hu,ht,hdat]) ⟨fuel,_,Nat.le_refl _,hx,hs⟩
 obtain ⟨xs,rfl⟩:=s
 exact⟨xs,hd,hf⟩
theorem zpM(hg:zyI P){id:TypeId}{fs:Array Field}{t:Ty}(hu:P.underlying id=some (.struct fs))(ht:zdQ id=some t)(hdat:t.dat=true){v:Value}{d:DataW H}{p:List MemPlace}{r:Reach}{base:Nat}(hv:Value.okWide P w r base id v)(h:DataW.Trod enc P w 0 sp true id v d p)(hs:Small P d id) : ∃ x:t.T,D (All w) w (.agg (t.enc x)) v/\∀ j,j<t.sz->Fit ((t.enc x).getD j .undef):=by
 obtain ⟨fuel,hx⟩:=h
 simp only[Value.okWide,hu]at hv
 obtain ⟨cs,rfl,_,_⟩:=hv
 obtain ⟨h1,y,h2⟩:=zyC hg fuel id t _ _ ht hdat hx hs
 have h1':cs.size=t.sz:=by simpa [Value.cells]using h1
 refine⟨y,.agg _ _ (by rw[zaj];exact h1') (fun j hj=>?_),fun j hj=>(h2 j hj).2⟩
 rw[zaj]at hj
 have:=(h2 j hj).1
 simpa [Value.cells,List.getD,Array.getD_eq_getD_getElem?]using this
end
end Go.Proofs.YtgajeebphoiphaaGreatDoor
end
