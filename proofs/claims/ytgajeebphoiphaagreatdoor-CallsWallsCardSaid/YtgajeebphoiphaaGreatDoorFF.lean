import Derived.Test.YtgajeebphoiphaaGreatDoorDA
set_option linter.unusedVariables false
set_option linter.unusedSimpArgs false
set_option linter.unusedSectionVars false
noncomputable section
open Go.IntKind (i64 u32)
namespace Go.Proofs.YtgajeebphoiphaaGreatDoor
open Go.RowKit
def zbJ(h n:Nat)(hd g:Nat->Int)(i:Nat):Int:=if i<h then hd i else if i-h<n then g (i-h)else 0
def hd2(n:Nat)(i:Nat):Int:=if i=0 then 1 else(n:Int)
def hd3(n:Nat)(i:Nat):Int:=if i=2 then(n:Int)else 1
theorem zyY{K:Nat}{q:Nat->Bool}(h : ∀ i,i<K->q i=false):((List.range K).any q)=false:=any_f.2 h
theorem zoR{h W n:Nat}(h2:h=2 ∨ h=3)(hn:1<=n)(hnW:n<=W)(hd g:Nat->Int)(e0:hd 0=1)(e1:h=3->hd 1<=1)(e2:hd (h-1)=(n:Int)):zbO (zbJ h n hd g) h W=true:=by
 have l0:zbJ h n hd g 0=1:=by unfold zbJ;rw[if_pos (by omega)];exact e0
 have l2:zbJ h n hd g (h-1)=(n:Int):=by unfold zbJ;rw[if_pos (by omega)];exact e2
 have lz : ∀ i,h+n<=i->zbJ h n hd g i=0:=fun i hi=>by unfold zbJ;rw[if_neg (by omega),if_neg (by omega)]
 have hm:zeo (zbJ h n hd g) h W=true:=by
  unfold zeo
  rw[l2,decide_eq_true (show(1:Int)<=(n:Int)by omega),decide_eq_true (show(n:Int)<=(W:Int)by omega),tnC,zyY fun i hi=>?_]
  . rfl
  . rw[lz _ (by omega)];rfl
 unfold zbO
 rw[hm,l0]
 rcases h2 with rfl | rfl
 . simp
 . have:zbJ 3 n hd g 1<=1:=by
    have:=e1 rfl
    unfold zbJ;rw[if_pos (by omega)];exact this
   simp[this]
theorem zj8{f:Nat->Int}{h W:Nat}(hz : ∀ i,i<h+W->f i=0):zbO f h W=true:=by
 unfold zbO
 rw[zyY fun i hi=>by rw[hz i hi];rfl]
 rfl
theorem zes{f g:Nat->Int}{h W:Nat}(h2:h=2 ∨ h=3)(he : ∀ i,i<h+W->f i=g i):zbO f h W=zbO g h W:=by
 have e1:((List.range (h+W)).any fun i=>!(f i==0))=((List.range (h+W)).any fun i=>!(g i==0)):=zhG fun i hi=>by rw[he i hi]
 have e2:zeo f h W=zeo g h W:=by
  unfold zeo
  rw[he (h-1) (by omega)]
  by_cases c:g (h-1)<=(W:Int)
  . congr 2
    refine zhG fun i hi=>?_
    rw[he _ (by omega)]
  . rw[decide_eq_false c,Bool.and_false,Bool.false_and,Bool.false_and]
 unfold zbO
 rw[e1,e2,he 0 (by omega)]
 by_cases h3:h=3
 . rw[he 1 (by omega)]
 . have:(h==3)=false:=by simpa using h3
   simp[this]
theorem mkTn{x:Nat}(h1:x<=100000){b:Nat}(hb:b<=104):(decide ((x:Int)=(x:Int))&&decide (0<=(x:Int))&&leB ((x:Int).toNat*b) 140737488355328)=true:=mkT (Int.natCast_nonneg x) (by omega) hb
theorem zAH{x:Nat}(h1:x<=100000){b:Nat}(hb:b<=104):(decide True&&decide (0<=(x:Int))&&leB (x*b) 140737488355328)=true:=by
 have:=mkT2 (Int.natCast_nonneg x) (show(x:Int)<=100000 by omega) hb
 rwa [tnC]at this
theorem zME{W n:Nat}(hW:W<=16)(hnW:n<=W)(g:Nat->Int):zcA (List.set (List.set (List.replicate (2+W) (0:Int)) 0 1) 1 (u32.wrap (n:Int))) 2 (List.take (2+W-2) (mk n g))=mk (2+W) (zbJ 2 n (hd2 n) g):=by
 rw[zbQ (by omega) (by omega),zqd,zdK (by omega),zdK (by omega),List.take_of_length_le (by rw[zP];omega),zjp (by omega)]
 refine zbS fun i hi=>?_
 unfold zbJ hd2
 by_cases h2:i<2
 . rw[if_pos h2,if_neg (by omega)]
   by_cases h0:i=0
   . subst h0;rfl
   . obtain rfl:i=1:=by omega
     rfl
 . rw[if_neg h2]
   by_cases hn:i-2<n
   . rw[if_pos hn,if_pos (by omega)]
   . rw[if_neg hn,if_neg (by omega),if_neg (by omega),if_neg (by omega)]
theorem zMF{W n:Nat}(hW:W<=16)(hnW:n<=W)(g:Nat->Int):zcA (List.set (List.set (List.set (List.replicate (3+W) (0:Int)) 0 1) 1 1) 2 (u32.wrap (n:Int))) 3 (List.take (3+W-3) (mk n g))=mk (3+W) (zbJ 3 n (hd3 n) g):=by
 rw[zbQ (by omega) (by omega),zqd,zdK (by omega),zdK (by omega),zdK (by omega),List.take_of_length_le (by rw[zP];omega),zjp (by omega)]
 refine zbS fun i hi=>?_
 unfold zbJ hd3
 by_cases h2:i<3
 . rw[if_pos h2,if_neg (by omega)]
   by_cases h0:i=2
   . subst h0;rfl
   . rw[if_neg h0,if_neg h0]
     by_cases h1:i=1
     . rw[if_pos h1]
     . rw[if_neg h1,if_pos (by omega)]
 . rw[if_neg h2]
   by_cases hn:i-3<n
   . rw[if_pos hn,if_pos (by omega)]
   . rw[if_neg hn,if_neg (by omega),if_neg (by omega),if_neg (by omega),if_neg (by omega)]
section
variable {F:Nat} {f:Nat->Int} (hf:U32 f) (hF:F<=1024) {a W:Nat} (h1:1<=W) (hW:W<=16)
include hf hF h1 hW
theorem zJl(ha:a+(2+W)<=16*F){n:Nat}(hn:1<=n)(hnW:n<=W)(g:Nat->Int)(hok:zbO (fun i=>f (a+i)) 2 W=true):znk (a:Int) (W:Int) (mk n g) (mk (16*F) f)=some (0,⟨mk (16*F) (over f a (2+W) (zbJ 2 n (hd2 n) g))⟩):=by
 have e:i64.wrap (2+(W:Int))=((2+W:Nat):Int):=zz _ _ (by omega) (by omega)
 have k1':zfL (some ⟨mk (16*F) f⟩) (a:Int) ((2+W:Nat):Int)=some 0:=zny hf (n:=2+W) hF ha
 have m1':zcY (some ⟨mk (16*F) f⟩) (a:Int) (W:Int) 2=some _:=zjq hf (by omega) (.inl rfl) hW ha
 rw[hok]at m1'
 have l1':zeV (a:Int) (mk (2+W) (zbJ 2 n (hd2 n) g)) (mk (16*F) f)=some _:=zAs (f:=f) (show 16*F<=100000 by omega) ha (zbJ 2 n (hd2 n) g)
 unfold znk
 dsimp only [Tree.run0,Tree.run]
 rw[zve hf _ h1 hW,e,k1',m1',zP]
 simp only[tnC,List.length_set,List.length_replicate,zME hW hnW g,l1']
 rw[decide_eq_false (show ¬ (n:Int)<1 by omega),decide_eq_false (show ¬ (n:Int)>(W:Int)by omega),zAH (x:=2+W) (by omega) (by decide),zbA (x:=0) (Int.le_refl _) (by omega),zbA (x:=1) (by decide) (by omega),inS_iff.2 (show 0<=(2:Int)/\(2:Int)<=((2+W:Nat):Int)/\((2+W:Nat):Int)<=((2+W:Nat):Int)from⟨by omega,by omega,by omega⟩)]
 rfl
end
section
variable {F:Nat} {f:Nat->Int} {a W:Nat} (h1:1<=W) (hW:W<=16)
include h1 hW
theorem zCK{k:Nat}(hk:k<=100)(ps:Nat->Nat)(ha:a<=100000)(hb : ∀ j,j<k->ps j<=100000)(h0 : ∀ i,i<k->a+(2+W)<=ps i ∨ ps i+(3+W)<=a)(hd : ∀ i j,i<k->j<i->ps j+(3+W)<=ps i ∨ ps i+(3+W)<=ps j) :
 znn (a:Int) (W:Int) (mk k fun j=>(ps j:Int))=some true:=by
 have e1:i64.wrap (i64.wrap ((a:Int)+2)+(W:Int))=((a+2+W:Nat):Int):=by
  have e0:i64.wrap ((a:Int)+2)=((a+2:Nat):Int):=zz _ _ (by omega) (by omega)
  rw[e0];exact zz _ _ (by omega) (by omega)
 have e2:i64.wrap (3+(W:Int))=((3+W:Nat):Int):=zz _ _ (by omega) (by omega)
 have step : ∀ i,i<k->zdM (a:Int) (W:Int) (mk k fun j=>(ps j:Int)) (.l0 (i:Int))=zdM (a:Int) (W:Int) (mk k fun j=>(ps j:Int)) (.l0 ((i+1:Nat):Int)):=fun i hi=>by
  have hbi:=hb i hi
  have e3:i64.wrap ((ps i:Int)+((3+W:Nat):Int))=((ps i+(3+W):Nat):Int):=zz _ _ (by omega) (by omega)
  have e4:((mk k fun j=>(ps j:Int)).take i).drop 0=mk i fun j=>(ps j:Int):=by rw[zcv (by omega),List.drop_zero]
  have inner:=zK (n:=i) (f:=fun j (_:Unit)=>zdM (a:Int) (W:Int) (mk k fun j=>(ps j:Int)) (.l4 (ps i:Int) (i:Int) (mk i fun j=>(ps j:Int)) (i:Int) (j:Int))) (S:=fun _=>()) (fun j hj=>by
   have hbj:=hb j (by omega)
   have e5:i64.wrap ((ps j:Int)+((3+W:Nat):Int))=((ps j+(3+W):Nat):Int):=zz _ _ (by omega) (by omega)
   rw[zhi]
   simp only[zjI,zY hj,cnT,zP,zn hj,tnC,zbg hj,e2,e5,e3,zi j (by omega),Tree.run,Option.bind_some]
   rcases hd i j hi hj with h | h
   . rw[decide_eq_false (show ¬ (ps i:Int)<((ps j+(3+W):Nat):Int)by omega)];rfl
   . rw[decide_eq_false (show ¬ (ps j:Int)<((ps i+(3+W):Nat):Int)by omega)]
     cases decide ((ps i:Int)<((ps j+(3+W):Nat):Int)) <;> rfl)
  have last:zdM (a:Int) (W:Int) (mk k fun j=>(ps j:Int)) (.l4 (ps i:Int) (i:Int) (mk i fun j=>(ps j:Int)) (i:Int) (i:Int))=zdM (a:Int) (W:Int) (mk k fun j=>(ps j:Int)) (.l0 ((i+1:Nat):Int)):=by
   rw[zhi]
   simp only[zjI,z9 (Nat.le_refl i),cnF,zi i (by omega),Tree.run,Option.bind_some]
  rw[zhi]
  simp only[zjI,zY hi,cnT,zP,zn hi,tnC,zbg hi,e1,e2,e3,zl6 (Nat.le_of_lt hi),e4,Tree.run,Option.bind_some]
  have go:zdM (a:Int) (W:Int) (mk k fun j=>(ps j:Int)) (.l4 (ps i:Int) (i:Int) (mk i fun j=>(ps j:Int)) (i:Int) 0)=zdM (a:Int) (W:Int) (mk k fun j=>(ps j:Int)) (.l0 ((i+1:Nat):Int)):=inner.trans last
  rw[go]
  rcases h0 i hi with h | h
  . rw[decide_eq_false (show ¬ (ps i:Int)<((a+2+W:Nat):Int)by omega)];rfl
  . rw[decide_eq_false (show ¬ (a:Int)<((ps i+(3+W):Nat):Int)by omega)]
    cases decide ((ps i:Int)<((a+2+W:Nat):Int)) <;> rfl
 have all:=zK (n:=k) (f:=fun i (_:Unit)=>zdM (a:Int) (W:Int) (mk k fun j=>(ps j:Int)) (.l0 (i:Int))) (S:=fun _=>()) step
 unfold znn zz0
 dsimp only [Tree.run0,Tree.run]
 refine(show zdM (a:Int) (W:Int) (mk k fun j=>(ps j:Int)) (.l0 0)=_ from all).trans ?_
 rw[zhi]
 simp only[zjI,zP,z9 (Nat.le_refl k),cnF,id,Tree.run,Option.bind_some]
end
structure zyc(N a s p k:Nat)(ps:Nat->Nat):Prop where
 stage:a+s<=N
 port : ∀ j,j<k->ps j+p<=N
 sp : ∀ i,i<k->a+s<=ps i ∨ ps i+p<=a
 pp : ∀ i j,i<k->j<i->ps j+p<=ps i ∨ ps i+p<=ps j
def zmq(ps:Nat->Nat)(j:Nat)(g:Nat->Int):Nat->Int:=over g (ps j+1) 1 fun _=>0
def zk1(ps:Nat->Nat)(W n:Nat)(m:Nat->Int)(j:Nat)(g:Nat->Int):Nat->Int:=over g (ps j) (3+W) (zbJ 3 n (hd3 n) m)
def stN(f:Nat->Int)(h W:Nat):Nat:=(zbk f h W).length
def za3(f:Nat->Int)(op:Nat->(Nat->Int)->Nat->Int):Nat->Nat->Int
 | 0=>f
 | j+1=>op j (za3 f op j)
section
variable {F:Nat} {f:Nat->Int} (hf:U32 f) (hF:F<=1024) {a W:Nat} (h1:1<=W) (hW:W<=16) {k:Nat} (hk1:1<=k) (hk:k<=4) {ps:Nat->Nat} (hA:zyc (16*F) a (2+W) (3+W) k ps)
include hf hF h1 hW hk1 hk hA
theorem zBN(hp : ∀ j,j<k->zbO (fun i=>f (ps j+i)) 3 W=true):znl (some ⟨mk (16*F) f⟩) (a:Int) (W:Int) (mk k fun j=>(ps j:Int))=some 0:=by
 have e2:i64.wrap (2+(W:Int))=((2+W:Nat):Int):=zz _ _ (by omega) (by omega)
 have e3:i64.wrap (3+(W:Int))=((3+W:Nat):Int):=zz _ _ (by omega) (by omega)
 have hst:=hA.stage
 have k1':zfL (some ⟨mk (16*F) f⟩) (a:Int) ((2+W:Nat):Int)=some 0:=zny hf (n:=2+W) hF hA.stage
 have q1':znn (a:Int) (W:Int) (mk k fun j=>(ps j:Int))=some true:=zCK (a:=a) h1 hW (k:=k) (by omega) ps (by omega) (fun j hj=>by have:=hA.port j hj;omega) hA.sp hA.pp
 have l0:=zK (n:=k) (f:=fun i (_:Unit)=>zgB (some ⟨mk (16*F) f⟩) (a:Int) (W:Int) (mk k fun j=>(ps j:Int)) (.l0 (i:Int))) (S:=fun _=>()) (fun i hi=>by
  have m1':zfL (some ⟨mk (16*F) f⟩) (ps i:Int) ((3+W:Nat):Int)=some 0:=zny hf (n:=3+W) hF (hA.port i hi)
  rw[zhh]
  simp only[zjH,zP,zY hi,cnT,zn hi,tnC,zbg hi,e3,m1',zi i (by omega),Tree.run,Option.bind_some]
  rfl)
 have l4:=zK (n:=k) (f:=fun i (_:Unit)=>zgB (some ⟨mk (16*F) f⟩) (a:Int) (W:Int) (mk k fun j=>(ps j:Int)) (.l4 (i:Int))) (S:=fun _=>()) (fun i hi=>by
  have m1':zcY (some ⟨mk (16*F) f⟩) (ps i:Int) (W:Int) 3=some _:=zjq hf (by omega) (.inr rfl) hW (hA.port i hi)
  rw[hp i hi]at m1'
  rw[zhh]
  simp only[zjH,zP,zY hi,cnT,zn hi,tnC,zbg hi,m1',zi i (by omega),Tree.run,Option.bind_some]
  rfl)
 unfold znl zzY
 dsimp only [Tree.run0,Tree.run]
 rw[zve hf _ h1 hW,e2,k1',zP,decide_eq_false (show ¬ (k:Int)<1 by omega),decide_eq_false (show ¬ (k:Int)>4 by omega)]
 show zgB (some ⟨mk (16*F) f⟩) (a:Int) (W:Int) (mk k fun j=>(ps j:Int)) (.l0 0)=_
 refine(show zgB (some ⟨mk (16*F) f⟩) (a:Int) (W:Int) (mk k fun j=>(ps j:Int)) (.l0 0)=_ from l0).trans ?_
 rw[zhh]
 simp only[zjH,zP,z9 (Nat.le_refl k),cnF,q1',cnT,Bool.not_true,Tree.run,Option.bind_some]
 refine(show zgB (some ⟨mk (16*F) f⟩) (a:Int) (W:Int) (mk k fun j=>(ps j:Int)) (.l4 0)=_ from l4).trans ?_
 rw[zhh]
 simp only[zjH,zP,z9 (Nat.le_refl k),cnF,id,Tree.run,Option.bind_some]
theorem zJh(hs:zbO (fun i=>f (a+i)) 2 W=true)(hp : ∀ j,j<k->zbO (fun i=>f (ps j+i)) 3 W=true) :
 zkt (a:Int) (W:Int) (mk k fun j=>(ps j:Int)) (mk (16*F) f)=some (0,⟨mk (16*F) (if stN (fun i=>f (a+i)) 2 W=0 then za3 f (zmq ps) k else over (za3 f (zk1 ps W (stN (fun i=>f (a+i)) 2 W) fun i=>f (a+(2+i))) k) a (2+W) fun _=>0)⟩):=by
 have hst:=hA.stage
 have k1':znl (some ⟨mk (16*F) f⟩) (a:Int) (W:Int) (mk k fun j=>(ps j:Int))=some 0:=zBN hf hF h1 hW hk1 hk hA hp
 have m1':zcY (some ⟨mk (16*F) f⟩) (a:Int) (W:Int) 2=some _:=zjq hf (by omega) (.inl rfl) hW hA.stage
 rw[hs]at m1'
 have m1'':zcY (some ⟨mk (16*F) f⟩) (a:Int) (W:Int) 2=some (zbk (fun i=>f (a+i)) 2 W,0):=m1'
 have e3:i64.wrap (3+(W:Int))=((3+W:Nat):Int):=zz _ _ (by omega) (by omega)
 have e2:i64.wrap (2+(W:Int))=((2+W:Nat):Int):=zz _ _ (by omega) (by omega)
 unfold zkt zzX
 dsimp only [Tree.run0,Tree.run]
 simp only[k1',m1'',Option.bind_some,e3]
 show cond (((zbk (fun i=>f (a+i)) 2 W).length:Int)==0) _ _=_
 by_cases h0:stN (fun i=>f (a+i)) 2 W=0
 . have hb:(((zbk (fun i=>f (a+i)) 2 W).length:Int)==0)=true:=by unfold stN at h0;rw[h0];rfl
   have l0:=zK (n:=k) (f:=fun i (xs:List Int)=>zh8 (a:Int) (W:Int) (mk k fun j=>(ps j:Int)) (mk (16*F) f) (.l0 (i:Int) xs)) (S:=fun i=>mk (16*F) (za3 f (zmq ps) i)) (fun i hi=>by
    have hpi:=hA.port i hi
    have w1':zdN ((ps i+1:Nat):Int) 0 (mk (16*F) (za3 f (zmq ps) i))=some _:=zlK (N:=16*F) (f:=za3 f (zmq ps) i) (a:=ps i+1) (by omega) (by omega) 0
    have e:i64.wrap ((ps i:Int)+1)=((ps i+1:Nat):Int):=zi _ (by omega)
    rw[zhg]
    simp only[zjG,zP,zY hi,cnT,zn hi,tnC,zbg hi,e,w1',zi i (by omega),Tree.run,Option.bind_some]
    rfl)
   rw[hb,cnT,if_pos h0]
   refine(show zh8 (a:Int) (W:Int) (mk k fun j=>(ps j:Int)) (mk (16*F) f) (.l0 0 (mk (16*F) f))=_ from l0).trans ?_
   rw[zhg]
   simp only[zjG,zP,z9 (Nat.le_refl k),cnF,id,Tree.run,Option.bind_some]
 . have hb:(((zbk (fun i=>f (a+i)) 2 W).length:Int)==0)=false:=by
    unfold stN at h0
    cases hq:(((zbk (fun i=>f (a+i)) 2 W).length:Int)==0)with
    | false=>rfl
    | true=>exact absurd (by simpa using hq) h0
   have hv:zbk (fun i=>f (a+i)) 2 W=mk (stN (fun i=>f (a+i)) 2 W) (fun i=>f (a+(2+i)))/\stN (fun i=>f (a+i)) 2 W<=W:=by
    unfold stN at h0 ⊢
    unfold zbk at h0 ⊢
    cases c1:(List.range (2+W)).any fun i=>!(f (a+i)==0)with
    | false=>rw[c1]at h0;exact absurd rfl h0
    | true=>
     rw[c1]at h0
     cases c2:zfb (fun i=>f (a+i)) 2 W with
     | false=>rw[c2]at h0;exact absurd rfl h0
     | true=>
      simp only[cnT,zP]
      refine⟨by first | rfl | trivial,?_⟩
      unfold zfb at c2
      simp only[Bool.and_eq_true]at c2
      have c3:=c2.2
      unfold zeo at c3
      simp only[Bool.and_eq_true,decide_eq_true_eq]at c3
      omega
   have hlen:(zbk (fun i=>f (a+i)) 2 W).length=stN (fun i=>f (a+i)) 2 W:=rfl
   obtain ⟨hv1,hv2⟩:=hv
   generalize stN (fun i=>f (a+i)) 2 W=n at *
   have hl3:=zMF hW hv2 fun i=>f (a+(2+i))
   have l4:=zK (n:=k) (f:=fun i (xs:List Int)=>zh8 (a:Int) (W:Int) (mk k fun j=>(ps j:Int)) (mk (16*F) f) (.l4 (zbk (fun i=>f (a+i)) 2 W,0) (i:Int) xs)) (S:=fun i=>mk (16*F) (za3 f (zk1 ps W n fun i=>f (a+(2+i))) i)) (fun i hi=>by
    have hpi:=hA.port i hi
    have w1':zeV (ps i:Int) (mk (3+W) (zbJ 3 n (hd3 n) fun i=>f (a+(2+i)))) (mk (16*F) (za3 f (zk1 ps W n fun i=>f (a+(2+i))) i))=some _:=zAs (N:=16*F) (f:=za3 f (zk1 ps W n fun i=>f (a+(2+i))) i) (a:=ps i) (n:=3+W) (by omega) hpi (zbJ 3 n (hd3 n) fun i=>f (a+(2+i)))
    rw[zhg]
    simp only[zjG,zP,zY hi,cnT,zn hi,tnC,zbg hi,e3,m1'',hv1,List.length_set,List.length_replicate,hl3,w1',zi i (by omega),Tree.run,Option.bind_some]
    rfl)
   have z1':zku (a:Int) ((2+W:Nat):Int) 0 (mk (16*F) (za3 f (zk1 ps W n fun i=>f (a+(2+i))) k))=some _:=zGW (N:=16*F) (f:=za3 f (zk1 ps W n fun i=>f (a+(2+i))) k) (a:=a) (n:=2+W) (by omega) hA.stage 0
   rw[hb,cnF,if_neg h0]
   simp only[cnT,tnC,List.length_set,List.length_replicate]
   rw[zAH (x:=3+W) (by omega) (by decide),zbA (x:=0) (Int.le_refl _) (by omega),zbA (x:=1) (by decide) (by omega),zbA (x:=2) (by decide) (by omega),inS_iff.2 (show 0<=(3:Int)/\(3:Int)<=((3+W:Nat):Int)/\((3+W:Nat):Int)<=((3+W:Nat):Int)from⟨by omega,by omega,by omega⟩)]
   simp only[cnT]
   refine(show zh8 (a:Int) (W:Int) (mk k fun j=>(ps j:Int)) (mk (16*F) f) (.l4 (zbk (fun i=>f (a+i)) 2 W,0) 0 (mk (16*F) f))=_ from l4).trans ?_
   rw[zhg]
   simp only[zjG,zP,z9 (Nat.le_refl k),cnF,e2,z1',cnT,id,Tree.run,Option.bind_some]
end
def zcp(W:Nat)(m:List Int):Prop:=1<=m.length/\m.length<=W/\∀ j,0<=zw m j/\zw m j<4294967296
def zhy(f:Nat->Int)(W D first i:Nat):List Int:=mk (f ((first+i) % D*(1+W))).toNat fun j=>f ((first+i) % D*(1+W)+(1+j))
def zh1(f:Nat->Int)(W D first many:Nat):List (List Int):=(List.range many).map (zhy f W D first)
theorem zgt(f:Nat->Int)(W D first many:Nat):(zh1 f W D first many).length=many:=by simp[zh1]
theorem zxK(f:Nat->Int)(W D first many:Nat):zh1 f W D first (many+1)=zh1 f W D first many++[zhy f W D first many]:=by simp[zh1,List.range_succ]
theorem zlE{f:Nat->Int}{W D first:Nat}{many:Int}(h:zfZ f W D first many=true){i:Nat}(hi:i<D):okQ f W D first many i=true:=by
 unfold zfZ at h
 rw[Bool.not_eq_true',any_f]at h
 have:=h i hi
 cases hq:okQ f W D first many i with
 | true=>rfl
 | false=>rw[hq]at this;exact absurd this (by decide)
theorem zqq{f:Nat->Int}{W D first:Nat}{many:Int}(h : ∀ i,i<D->okQ f W D first many i=true):zfZ f W D first many=true:=by
 unfold zfZ
 rw[Bool.not_eq_true',any_f]
 intro i hi
 rw[h i hi];rfl
theorem okQ_iff{f:Nat->Int}{W D first:Nat}{many:Int}{i:Nat}:okQ f W D first many i=true ↔ (f ((first+i) % D*(1+W))<=(W:Int)/\(∀ j,j<W-(f ((first+i) % D*(1+W))).toNat->f ((first+i) % D*(1+W)+(1+(f ((first+i) % D*(1+W))).toNat+j))=0))/\((i:Int)<many ↔ f ((first+i) % D*(1+W))>0):=by
 unfold okQ znV
 rw[Bool.and_eq_true,Bool.and_eq_true,decide_eq_true_eq,Bool.not_eq_true',any_f,beq_iff_eq,decide_eq_decide]
 constructor
 . rintro ⟨⟨h1,h2⟩,h3⟩
   refine⟨⟨h1,fun j hj=>?_⟩,h3⟩
   have:=h2 j hj
   simpa using this
 . rintro ⟨⟨h1,h2⟩,h3⟩
   refine⟨⟨h1,fun j hj=>?_⟩,h3⟩
   have:=h2 j hj
   simpa using this
theorem zAL{f:Nat->Int}(hf:U32 f){W D first many:Nat}(hm:many<=D)(h:zfZ f W D first (many:Int)=true){i:Nat}(hi:i<many):zcp W (zhy f W D first i):=by
 obtain ⟨⟨h1,_⟩,h3⟩:=okQ_iff.1 (zlE h (show i<D by omega))
 have h4:=h3.1 (by omega)
 refine⟨by unfold zhy;rw[zP];omega,by unfold zhy;rw[zP];omega,fun j=>?_⟩
 unfold zhy
 by_cases hj:j<(f ((first+i) % D*(1+W))).toNat
 . rw[zbg hj];exact hf _
 . rw[zAJ (by omega)];omega
theorem zvw{f:Nat->Int}(hf:U32 f){W D first many:Nat}(hm:many<=D)(h:zfZ f W D first (many:Int)=true) : ∀ m ∈ zh1 f W D first many,zcp W m:=fun m hmem=>by
 unfold zh1 at hmem
 obtain ⟨i,hi,rfl⟩:=List.mem_map.1 hmem
 exact zAL hf hm h (List.mem_range.1 hi)
section
variable {f:Nat->Int} (hf:U32 f) {W D:Nat} (hW:W<=16) (hD1:1<=D) (hD:D<=8)
include hf hW hD1 hD
theorem zBk{first:Nat}(hfi:first<D){many:Nat}(hm:many<=D)(hr:zfZ f W D first (many:Int)=true):zid ⟨(W:Int),(D:Int)⟩ (mk (D*(1+W)) f) (first:Int) (many:Int)=some (zh1 f W D first many,true):=by
 have eW:zmM ⟨(W:Int),(D:Int)⟩=((1+W:Nat):Int):=by
  show i64.wrap (1+(W:Int))=_
  exact zz _ _ (by omega) (by omega)
 have dD:decide ((D:Int)=0)=false:=decide_eq_false (by omega)
 have ef:i64.wrap (first:Int)=(first:Int):=zal _ (by omega) (by omega)
 have em:i64.wrap (many:Int)=(many:Int):=zal _ (by omega) (by omega)
 have eD:u32.wrap (D:Int)=(D:Int):=zbQ (by omega) (by omega)
 have e9 : ∀ (i:Nat) (xs:List (List Int)),i<=100->zgA ⟨(W:Int),(D:Int)⟩ (mk (D*(1+W)) f) (first:Int) (many:Int) (.l27 (i:Int) xs)=zgA ⟨(W:Int),(D:Int)⟩ (mk (D*(1+W)) f) (first:Int) (many:Int) (.l0 ((i+1:Nat):Int) xs):=fun i xs hi=>by
  rw[zkd]
  simp only[zlQ,zi i (show i<4611686018427387904 by omega),Tree.run,Option.bind_some]
 have l0:=zK (n:=D) (f:=fun i (xs:List (List Int))=>zgA ⟨(W:Int),(D:Int)⟩ (mk (D*(1+W)) f) (first:Int) (many:Int) (.l0 (i:Int) xs)) (S:=fun i=>zh1 f W D first (min i many)) (fun i hi=>by
  obtain ⟨⟨g1,g2⟩,g3⟩:=okQ_iff.1 (zlE hr hi)
  have hpl:=zA9 hf hW hD1 hD (first:=first) (i:=i)
  have e1:i64.wrap ((first:Int)+(i:Int))=((first+i:Nat):Int):=zz _ _ (by omega) (by omega)
  have e2:i64.wrap ((((first+i) % D:Nat):Int)*((1+W:Nat):Int))=(((first+i) % D*(1+W):Nat):Int):=zz _ _ (Int.natCast_mul _ _).symm (by omega)
  have e4:i64.wrap ((((first+i) % D:Nat):Int)+1)=(((first+i) % D+1:Nat):Int):=zi _ (by have:=Nat.mod_lt (first+i) (show D>0 by omega);omega)
  have e5:i64.wrap ((((first+i) % D+1:Nat):Int)*((1+W:Nat):Int))=(((first+i) % D*(1+W)+(1+W):Nat):Int):=zz _ _ (by rw[← Int.natCast_mul,Nat.add_mul,Nat.one_mul]) (by omega)
  have hms:zhy f W D first i=mk (f ((first+i) % D*(1+W))).toNat fun j=>f ((first+i) % D*(1+W)+(1+j)):=rfl
  generalize hp:(first+i) % D*(1+W)=p at *
  have e6:((mk (D*(1+W)) f).take (p+(1+W))).drop p=mk (1+W) fun j=>f (p+j):=by rw[zcv (by omega),zd3,Nat.add_sub_cancel_left]
  have k1:=zxt (hf.sh p) hW
  have hq:znV (fun j=>f (p+j)) W=true:=by
   unfold znV
   rw[Bool.and_eq_true,decide_eq_true_eq,Bool.not_eq_true',any_f]
   refine⟨g1,fun j hj=>?_⟩
   have:f (p+(1+(f p).toNat+j))=0:=g2 j hj
   show(!(f (p+(1+(f p).toNat+j))==0))=false
   rw[this];rfl
  rw[hq]at k1
  have k1':znh (mk (1+W) fun j=>f (p+j))=some (mk (f p).toNat (fun j=>f (p+(1+j))),true):=k1
  have h0:=(hf p).1
  have hlen:decide (((f p).toNat:Int)>0)=decide ((i:Int)<(many:Int)):=by
   rw[show(((f p).toNat:Nat):Int)=f p by omega,decide_eq_decide];exact g3.symm
  rw[zkd]
  simp only[zlQ,zY hi,dD,cnT,cnF,ef,em,e1,zzv,eW,e2,e4,e5,tnC,e6,k1',zP,inS_iff.2 (show 0<=(p:Int)/\(p:Int)<=((p+(1+W):Nat):Int)/\((p+(1+W):Nat):Int)<=((D*(1+W):Nat):Int)from⟨by omega,by omega,by omega⟩),hlen,beq_self_eq_true,Bool.not_true,e9 i _ (show i<=100 by omega),Tree.run,Option.bind_some]
  by_cases hm2:i<many
  . rw[decide_eq_true (show(i:Int)<(many:Int)by omega),cnT,List.length_singleton,zgt,za0 (show(min i many+1)*24<=140737488355328 by omega),cnT,← hms,Nat.min_eq_left (show i<=many by omega),Nat.min_eq_left (show i+1<=many by omega),zxK]
  . rw[decide_eq_false (show ¬ (i:Int)<(many:Int)by omega),cnF,Nat.min_eq_right (show many<=i by omega),Nat.min_eq_right (show many<=i+1 by omega)])
 unfold zid zzS
 dsimp only [Tree.run0,Tree.run]
 show cond (decide ((many:Int)>u32.wrap (D:Int))) _ (cond (decide ((first:Int)>=u32.wrap (D:Int))) _ _)=_
 rw[eD,decide_eq_false (show ¬ (many:Int)>(D:Int)by omega),cnF,decide_eq_false (show ¬ (first:Int)>=(D:Int)by omega),cnF]
 have e0:zh1 f W D first (min 0 many)=[]:=by rw[Nat.zero_min];rfl
 have l0':zgA ⟨(W:Int),(D:Int)⟩ (mk (D*(1+W)) f) (first:Int) (many:Int) (.l0 0 [])=zgA ⟨(W:Int),(D:Int)⟩ (mk (D*(1+W)) f) (first:Int) (many:Int) (.l0 (D:Int) (zh1 f W D first (min D many))):=by
  have h:=l0
  simp only[e0]at h
  exact h
 rw[l0',zkd]
 simp only[zlQ,z9 (Nat.le_refl _),cnF,id,Nat.min_eq_right hm,Tree.run,Option.bind_some]
end
def zej(h D W first:Nat)(hd:Nat->Int)(ms:List (List Int)):Nat->Nat->Int
 | 0=>fun j=>if j<h then hd j else 0
 | i+1=>over (over (zej h D W first hd ms i) (h+(first+i) % D*(1+W)) 1 fun _=>((zW ms i).length:Int)) (h+(first+i) % D*(1+W)+1) (zW ms i).length (zw (zW ms i))
theorem ziv{ms:List (List Int)}{i:Nat}(h:i<ms.length):zW ms i ∈ ms:=by
 have:zW ms i=ms[i]:=by simp[zW,List.getD,h]
 rw[this];exact List.getElem_mem h
theorem zjO{h D W first:Nat}{hd:Nat->Int}{ms:List (List Int)}(i:Nat){j:Nat}(hj:j<h):zej h D W first hd ms i j=hd j:=by
 induction i with
 | zero=>show(if j<h then hd j else 0)=_;rw[if_pos hj]
 | succ i ih=>
  show over (over _ _ _ _) _ _ _ j=_
  rw[zaE (by omega),zaE (by omega),ih]
theorem zDn{D first i t:Nat}(hi:i<D)(ht:t<D)(h:(first+i) % D=(first+t) % D):i=t:=by
 have h1:=Nat.div_add_mod (first+i) D
 have h2:=Nat.div_add_mod (first+t) D
 rw[h]at h1
 rcases Nat.lt_trichotomy ((first+i) / D) ((first+t) / D)with h3 | h3 | h3
 . have h4:D*((first+i) / D+1)<=D*((first+t) / D):=Nat.mul_le_mul_left D h3
   rw[Nat.mul_add,Nat.mul_one]at h4
   omega
 . rw[h3]at h1;omega
 . have h4:D*((first+t) / D+1)<=D*((first+i) / D):=Nat.mul_le_mul_left D h3
   rw[Nat.mul_add,Nat.mul_one]at h4
   omega
theorem zBa{q q' W:Nat}(h:q ≠ q'):q*(1+W)+(1+W)<=q'*(1+W) ∨ q'*(1+W)+(1+W)<=q*(1+W):=by
 rcases Nat.lt_or_gt_of_ne h with h1 | h1
 . left
   have:=Nat.mul_le_mul_right (1+W) h1
   rw[Nat.succ_mul]at this
   exact this
 . right
   have:=Nat.mul_le_mul_right (1+W) h1
   rw[Nat.succ_mul]at this
   exact this
section
variable {h D W first:Nat} {hd:Nat->Int} {ms:List (List Int)}
theorem zp2(hms : ∀ m ∈ ms,zcp W m)(hl:ms.length<=D)(i:Nat)(hi:i<=ms.length){t:Nat}(ht:t<D){j:Nat}(hj:j<1+W) :
 zej h D W first hd ms i (h+((first+t) % D*(1+W)+j))=if t<i then(if j=0 then((zW ms t).length:Int)else if j-1<(zW ms t).length then zw (zW ms t) (j-1)else 0)else 0:=by
 induction i with
 | zero=>
  rw[if_neg (by omega)]
  show(if h+((first+t) % D*(1+W)+j)<h then _ else _)=_
  rw[if_neg (by omega)]
 | succ i ih=>
  have hm:=hms _ (ziv (show i<ms.length by omega))
  have ih:=ih (by omega)
  show over (over _ _ _ _) _ _ _ _=_
  by_cases hti:t=i
  . subst hti
    rw[if_pos (by omega)]
    by_cases h0:j=0
    . subst h0
      rw[zaE (by omega),if_pos rfl]
      exact zg7 (show 0<1 by omega)
    . rw[if_neg h0]
      by_cases h1:j-1<(zW ms t).length
      . rw[if_pos h1,show h+((first+t) % D*(1+W)+j)=h+(first+t) % D*(1+W)+1+(j-1)by omega,zg7 h1]
      . rw[if_neg h1,zaE (by omega),zaE (by omega),ih,if_neg (by omega)]
  . have hne:(first+t) % D ≠ (first+i) % D:=fun e=>hti (zDn ht (by omega) e)
    have hpl:=zBa (W:=W) hne
    obtain ⟨m1,m2,_⟩:=hm
    rw[zaE (by omega),zaE (by omega),ih]
    by_cases c:t<i
    . rw[if_pos c,if_pos (show t<i+1 by omega)]
    . rw[if_neg c,if_neg (show ¬ t<i+1 by omega)]
theorem zzw(hhd : ∀ j,j<h->0<=hd j/\hd j<4294967296)(hW:W<=16)(hms : ∀ m ∈ ms,zcp W m)(i:Nat)(hi:i<=ms.length):U32 (zej h D W first hd ms i):=by
 induction i with
 | zero=>
  intro j
  show 0<=(if j<h then hd j else 0)/\_
  by_cases hj:j<h
  . have:=hhd j hj
    simp only[zej,if_pos hj];exact this
  . simp only[zej,if_neg hj];omega
 | succ i ih=>
  obtain ⟨m1,m2,m3⟩:=hms _ (ziv (show i<ms.length by omega))
  refine zep (zep (ih (by omega)) fun j hj=>?_) fun j hj=>m3 j
  constructor <;> omega
theorem zuY(hms : ∀ m ∈ ms,zcp W m)(hl:ms.length<=D):zfZ (fun j=>zej h D W first hd ms ms.length (h+j)) W D first (ms.length:Int)=true:=by
 refine zqq fun i hi=>okQ_iff.2 ?_
 have a0:=zp2 (h:=h) (first:=first) (hd:=hd) hms hl ms.length (Nat.le_refl _) hi (show 0<1+W by omega)
 rw[Nat.add_zero]at a0
 rw[if_pos rfl]at a0
 simp only[a0]
 by_cases c:i<ms.length
 . obtain ⟨m1,m2,_⟩:=hms _ (ziv c)
   rw[if_pos c]
   refine⟨⟨by omega,fun j hj=>?_⟩,by omega⟩
   rw[tnC]at hj ⊢
   rw[zp2 hms hl ms.length (Nat.le_refl _) hi (show 1+(zW ms i).length+j<1+W by omega),if_pos c,if_neg (by omega),if_neg (by omega)]
 . rw[if_neg c]
   refine⟨⟨by omega,fun j hj=>?_⟩,by omega⟩
   rw[show(0:Int).toNat=0 from rfl]at hj ⊢
   rw[zp2 hms hl ms.length (Nat.le_refl _) hi (show 1+0+j<1+W by omega),if_neg c]
end
section
variable {f:Nat->Int} (hf:U32 f) {W D:Nat} (hW1:1<=W) (hW:W<=16) (hD1:1<=D) (hD:D<=8) {N a:Nat} (hN:N<=100000)
include hf hW1 hW hD1 hD hN
theorem zAr{h first:Nat}(hh:h<=3)(hfi:first<D){lost:Int}{ms:List (List Int)}(hms : ∀ m ∈ ms,zcp W m)(hl:ms.length<=D)(hd:Nat->Int)(ha:a+(h+D*(1+W))<=N) :
 zeU ⟨(W:Int),(D:Int)⟩ (a:Int) ⟨(first:Int),lost,ms⟩ (mk h hd) (mk N f)=some ⟨mk N (over f a (h+D*(1+W)) (zej h D W first hd ms ms.length))⟩:=by
 obtain ⟨d1,d2⟩:=dw hf hW1 hW hD1 hD hN
 have eW:zmM ⟨(W:Int),(D:Int)⟩=((1+W:Nat):Int):=by
  show i64.wrap (1+(W:Int))=_
  exact zz _ _ (by omega) (by omega)
 have dD:decide ((D:Int)=0)=false:=decide_eq_false (by omega)
 have ef:i64.wrap (first:Int)=(first:Int):=zal _ (by omega) (by omega)
 have eA:=zyX hf hW1 hW hD1 hD hN h hh
 generalize hK:h+D*(1+W)=K at *
 have e0:zcA (List.replicate K (0:Int)) 0 (List.take K (mk h hd))=mk K (zej h D W first hd ms 0):=by
  rw[List.take_of_length_le (by rw[zP];omega),zqd,zjp (by omega)]
  refine zbS fun i hi=>?_
  show _=if i<h then hd i else 0
  by_cases c:i<h
  . rw[if_pos c,if_pos (by omega)];rfl
  . rw[if_neg c,if_neg (by omega)]
 have l0:=zK (n:=ms.length) (f:=fun i (xs:List Int)=>zmV ⟨(W:Int),(D:Int)⟩ (a:Int) ⟨(first:Int),lost,ms⟩ (mk h hd) (mk N f) (.l0 (i:Int) xs)) (S:=fun i=>mk K (zej h D W first hd ms i)) (fun i hi=>by
  obtain ⟨m1,m2,m3⟩:=hms _ (ziv hi)
  have hpl:=zA9 hf hW hD1 hD (first:=first) (i:=i)
  have e1:i64.wrap ((first:Int)+(i:Int))=((first+i:Nat):Int):=zz _ _ (by omega) (by omega)
  have e2:i64.wrap ((((first+i) % D:Nat):Int)*((1+W:Nat):Int))=(((first+i) % D*(1+W):Nat):Int):=zz _ _ (Int.natCast_mul _ _).symm (by omega)
  have e3:i64.wrap ((h:Int)+(((first+i) % D*(1+W):Nat):Int))=((h+(first+i) % D*(1+W):Nat):Int):=zz _ _ (by omega) (by omega)
  have e4:i64.wrap (((h+(first+i) % D*(1+W):Nat):Int)+1)=((h+(first+i) % D*(1+W)+1:Nat):Int):=zi _ (by omega)
  have e5:u32.wrap (((zW ms i).length:Nat):Int)=((zW ms i).length:Int):=zbQ (by omega) (by omega)
  have hes:zej h D W first hd ms (i+1)=over (over (zej h D W first hd ms i) (h+(first+i) % D*(1+W)) 1 fun _=>((zW ms i).length:Int)) (h+(first+i) % D*(1+W)+1) (zW ms i).length (zw (zW ms i)):=rfl
  generalize hp:(first+i) % D*(1+W)=p at *
  have e6:List.set (mk K (zej h D W first hd ms i)) (h+p) ((zW ms i).length:Int)=mk K (over (zej h D W first hd ms i) (h+p) 1 fun _=>((zW ms i).length:Int)):=by
   rw[zdK (by omega)]
   refine zbS fun j hj=>?_
   unfold over
   by_cases c:j=h+p
   . rw[if_pos c,if_pos (by omega)]
   . rw[if_neg c,if_neg (by omega)]
  have e7:zcA (mk K (over (zej h D W first hd ms i) (h+p) 1 fun _=>((zW ms i).length:Int))) (h+p+1) (List.take (K-(h+p+1)) (zW ms i))=mk K (zej h D W first hd ms (i+1)):=by
   rw[List.take_of_length_le (by omega),show zcA (mk K (over (zej h D W first hd ms i) (h+p) 1 fun _=>((zW ms i).length:Int))) (h+p+1) (zW ms i)=zcA (mk K (over (zej h D W first hd ms i) (h+p) 1 fun _=>((zW ms i).length:Int))) (h+p+1) (mk (zW ms i).length (zw (zW ms i)))from congrArg _ (zEY rfl),zjp (by omega),hes]
   rfl
  rw[zo6]
  simp only[zpR,zY hi,cnT,zn hi,tnC,dD,cnF,ef,e1,zzv,eW,e2,zP,e3,e4,e5,zn (show h+p<K by omega),List.length_set,inS_iff.2 (show 0<=((h+p+1:Nat):Int)/\((h+p+1:Nat):Int)<=((K:Nat):Int)/\((K:Nat):Int)<=((K:Nat):Int)from⟨by omega,by omega,by omega⟩),e6,e7,zi i (show i<4611686018427387904 by omega),Tree.run,Option.bind_some])
 have w1':zeV (a:Int) (mk K (zej h D W first hd ms ms.length)) (mk N f)=some _:=zAs (f:=f) hN ha (zej h D W first hd ms ms.length)
 unfold zeU zzR
 dsimp only [Tree.run0,Tree.run]
 simp only[zP,eA,tnC,List.length_replicate,e0]
 rw[zAH (x:=K) (by omega) (by decide),cnT]
 refine(show zmV ⟨(W:Int),(D:Int)⟩ (a:Int) ⟨(first:Int),lost,ms⟩ (mk h hd) (mk N f) (.l0 0 (mk K (zej h D W first hd ms 0)))=_ from l0).trans ?_
 rw[zo6]
 simp only[zpR,z9 (Nat.le_refl _),cnF,w1',cnT,id,Tree.run,Option.bind_some]
end
def zfM(D W:Nat)(ms:List (List Int)):Nat->Int:=zej 1 D W 0 (fun _=>(ms.length:Int)) ms ms.length
def zb6(first:Nat)(ms:List (List Int)):Nat:=if ms.length=0 then 0 else first
def zqk(first:Nat)(lost:Int)(ms:List (List Int))(j:Nat):Int:=if j=0 then(zb6 first ms:Int)else if j=1 then(ms.length:Int)else lost
def zgp(D W first:Nat)(lost:Int)(ms:List (List Int)):Nat->Int:=zej 3 D W (zb6 first ms) (zqk first lost ms) ms ms.length
section
variable {D W:Nat} {ms:List (List Int)} (hms : ∀ m ∈ ms,zcp W m) (hl:ms.length<=D)
include hms hl
theorem zBU:zfM D W ms 0=(ms.length:Int):=zjO _ (by decide)
theorem zpo:zho (zfM D W ms) W D=true:=by
 unfold zho
 rw[zBU hms hl,decide_eq_true (show(ms.length:Int)<=(D:Int)by omega),Bool.true_and]
 exact zuY hms hl
theorem zs1(hD:D<=8)(hW:W<=16):U32 (zfM D W ms):=zzw (fun j hj=>by constructor <;> omega) hW hms _ (Nat.le_refl _)
variable {first:Nat} {lost:Int}
theorem zDA:zgp D W first lost ms 0=(zb6 first ms:Int):=zjO _ (by decide)
theorem zDB:zgp D W first lost ms 1=(ms.length:Int):=zjO _ (by decide)
theorem zhR(hfi:first<D):zb6 first ms<D:=by unfold zb6;split <;> omega
theorem zr8(hfi:first<D):zeC (zgp D W first lost ms) W D=true:=by
 have h1:=zhR hms hl hfi
 unfold zeC
 rw[zDA hms hl,zDB hms hl,decide_eq_true (show(zb6 first ms:Int)<(D:Int)by omega),decide_eq_true (show(ms.length:Int)<=(D:Int)by omega),Bool.true_and,Bool.true_and,tnC]
 have h2:zfZ (fun i=>zgp D W first lost ms (3+i)) W D (zb6 first ms) (ms.length:Int)=true:=zuY hms hl
 rw[h2,Bool.and_true]
 unfold zb6
 by_cases c:ms.length=0
 . rw[if_pos c];simp
 . rw[decide_eq_true (show(ms.length:Int)>0 by omega)];rfl
theorem zvm(hfi:first<D)(hD:D<=8)(hW:W<=16)(hlo:0<=lost/\lost<4294967296):U32 (zgp D W first lost ms):=zzw (fun j hj=>by
 have h1:=zhR hms hl hfi
 unfold zqk
 split
 . constructor <;> omega
 . split
   . constructor <;> omega
   . exact hlo) hW hms _ (Nat.le_refl _)
end
theorem qst_iff{f:Nat->Int}{W D:Nat}:zho f W D=true ↔ f 0<=(D:Int)/\zfZ (fun i=>f (1+i)) W D 0 (f 0)=true:=by
 unfold zho;rw[Bool.and_eq_true,decide_eq_true_eq]
theorem qpt_iff{f:Nat->Int}{W D:Nat}:zeC f W D=true ↔ f 0<(D:Int)/\f 1<=(D:Int)/\(f 1>0 ∨ f 0=0)/\zfZ (fun i=>f (3+i)) W D (f 0).toNat (f 1)=true:=by
 unfold zeC;rw[Bool.and_eq_true,Bool.and_eq_true,Bool.and_eq_true,Bool.or_eq_true,decide_eq_true_eq,decide_eq_true_eq,decide_eq_true_eq,beq_iff_eq]
def stM(f:Nat->Int)(W D:Nat):List (List Int):=zh1 (fun i=>f (1+i)) W D 0 (f 0).toNat
def ptM(f:Nat->Int)(W D:Nat):List (List Int):=zh1 (fun i=>f (3+i)) W D (f 0).toNat (f 1).toNat
def ptR(f:Nat->Int)(W D:Nat):zU:=⟨f 0,f 2,ptM f W D⟩
section
variable {f:Nat->Int} (hf:U32 f) {W D:Nat}
include hf
theorem zqT(h:zho f W D=true):(∀ m ∈ stM f W D,zcp W m)/\(stM f W D).length<=D/\((stM f W D).length:Int)=f 0:=by
 obtain ⟨h1,h2⟩:=qst_iff.1 h
 have h0:=(hf 0).1
 have e:(((f 0).toNat:Nat):Int)=f 0:=by omega
 refine⟨zvw (hf.sh 1) (show(f 0).toNat<=D by omega) (by rw[e];exact h2),by unfold stM;rw[zgt];omega,by unfold stM;rw[zgt];omega⟩
theorem zmA(h:zeC f W D=true):(∀ m ∈ ptM f W D,zcp W m)/\(ptM f W D).length<=D/\((ptM f W D).length:Int)=f 1:=by
 obtain ⟨h1,h2,h3,h4⟩:=qpt_iff.1 h
 have h0:=(hf 1).1
 have e:(((f 1).toNat:Nat):Int)=f 1:=by omega
 refine⟨zvw (hf.sh 3) (show(f 1).toNat<=D by omega) (by rw[e];exact h4),by unfold ptM;rw[zgt];omega,by unfold ptM;rw[zgt];omega⟩
end
section
variable {f:Nat->Int} (hf:U32 f) {W D:Nat} (hW1:1<=W) (hW:W<=16) (hD1:1<=D) (hD:D<=8) {N a:Nat} (hN:N<=100000)
include hf hW1 hW hD1 hD hN
theorem zB0(h:Nat)(hh:h<=3)(ha:a+(h+D*(1+W))<=N) :
 zcX (some ⟨mk N f⟩) (a:Int) (zeH ⟨(W:Int),(D:Int)⟩ (h:Int))=some (mk (h+D*(1+W)) (fun i=>f (a+i)),0):=by
 rw[zyX hf hW1 hW hD1 hD hN h hh]
 exact zqZ (f:=f) hN ha
theorem zv5(ha:a+(1+D*(1+W))<=N)(hok:zho (fun i=>f (a+i)) W D=true) :
 zgJ ⟨(W:Int),(D:Int)⟩ (a:Int) (mk N f)=some (⟨0,0,stM (fun i=>f (a+i)) W D⟩,true,⟨mk N f⟩):=by
 obtain ⟨h1,h2⟩:=qst_iff.1 hok
 have h0:=((hf.sh a) 0).1
 have e:((((fun i=>f (a+i)) 0).toNat:Nat):Int)=(fun i=>f (a+i)) 0:=by omega
 have k1':zcX (some ⟨mk N f⟩) (a:Int) (zeH ⟨(W:Int),(D:Int)⟩ 1)=some (mk (1+D*(1+W)) (fun i=>f (a+i)),0):=zB0 hf hW1 hW hD1 hD hN (a:=a) 1 (by omega) ha
 have m1':zid ⟨(W:Int),(D:Int)⟩ (mk (D*(1+W)) fun i=>f (a+(1+i))) 0 ((((fun i=>f (a+i)) 0).toNat:Nat):Int)=some _:=zBk ((hf.sh a).sh 1) hW hD1 hD (first:=0) (by omega) (many:=((fun i=>f (a+i)) 0).toNat) (by have h1':f (a+0)<=(D:Int):=h1;show(f (a+0)).toNat<=D;omega) (by rw[e];exact h2)
 rw[e]at m1'
 have e3:((mk (1+D*(1+W)) fun i=>f (a+i)).take (1+D*(1+W))).drop 1=mk (D*(1+W)) fun i=>f (a+(1+i)):=by rw[zcv (Nat.le_refl _),zd3,Nat.add_sub_cancel_left]
 unfold zgJ zzW
 dsimp only [Tree.run0,Tree.run]
 rw[k1',Option.bind_some,zx2]
 simp only[ztt,zP,tnC,e3,zbg (show 0<1+D*(1+W)by omega),m1',cnT,zbA (x:=0) (n:=1+D*(1+W)) (Int.le_refl _) (by omega),inS_iff.2 (show 0<=(1:Int)/\(1:Int)<=((1+D*(1+W):Nat):Int)/\((1+D*(1+W):Nat):Int)<=((1+D*(1+W):Nat):Int)from⟨by omega,by omega,by omega⟩),Tree.run,Option.bind_some]
 rfl
theorem zBc(ha:a+(3+D*(1+W))<=N)(hok:zeC (fun i=>f (a+i)) W D=true) :
 zgH ⟨(W:Int),(D:Int)⟩ (a:Int) (mk N f)=some (ptR (fun i=>f (a+i)) W D,true,⟨mk N f⟩):=by
 obtain ⟨h1,h2,h3,h4⟩:=qpt_iff.1 hok
 have h0:=((hf.sh a) 0).1
 have h5:=((hf.sh a) 1).1
 have e:((((fun i=>f (a+i)) 0).toNat:Nat):Int)=(fun i=>f (a+i)) 0:=by omega
 have e':((((fun i=>f (a+i)) 1).toNat:Nat):Int)=(fun i=>f (a+i)) 1:=by omega
 have k1':zcX (some ⟨mk N f⟩) (a:Int) (zeH ⟨(W:Int),(D:Int)⟩ 3)=some (mk (3+D*(1+W)) (fun i=>f (a+i)),0):=zB0 hf hW1 hW hD1 hD hN (a:=a) 3 (by omega) ha
 have m1':zid ⟨(W:Int),(D:Int)⟩ (mk (D*(1+W)) fun i=>f (a+(3+i))) ((((fun i=>f (a+i)) 0).toNat:Nat):Int) ((((fun i=>f (a+i)) 1).toNat:Nat):Int)=some _:=zBk ((hf.sh a).sh 3) hW hD1 hD (first:=((fun i=>f (a+i)) 0).toNat) (by have h1':f (a+0)<(D:Int):=h1;show(f (a+0)).toNat<D;omega) (many:=((fun i=>f (a+i)) 1).toNat) (by have h1':f (a+1)<=(D:Int):=h2;show(f (a+1)).toNat<=D;omega) (by rw[e'];exact h4)
 rw[e,e']at m1'
 have e3:((mk (3+D*(1+W)) fun i=>f (a+i)).take (3+D*(1+W))).drop 3=mk (D*(1+W)) fun i=>f (a+(3+i)):=by rw[zcv (Nat.le_refl _),zd3,Nat.add_sub_cancel_left]
 unfold zgH zzQ
 dsimp only [Tree.run0,Tree.run]
 rw[k1',Option.bind_some,zx0]
 simp only[ztr,zP,tnC,e3,zbg (show 0<3+D*(1+W)by omega),zbg (show 1<3+D*(1+W)by omega),zbg (show 2<3+D*(1+W)by omega),m1',cnT,zbA (x:=0) (n:=3+D*(1+W)) (Int.le_refl _) (by omega),zbA (x:=1) (n:=3+D*(1+W)) (by decide) (by omega),zbA (x:=2) (n:=3+D*(1+W)) (by decide) (by omega),inS_iff.2 (show 0<=(3:Int)/\(3:Int)<=((3+D*(1+W):Nat):Int)/\((3+D*(1+W):Nat):Int)<=((3+D*(1+W):Nat):Int)from⟨by omega,by omega,by omega⟩),Tree.run,Option.bind_some]
 by_cases c:f (a+1)>0
 . rw[decide_eq_true c,cnT];rfl
 . have:f (a+0)=0:=h3.resolve_left c
   rw[decide_eq_false c,cnF];simp only[ptR,ptM,this];rfl
theorem zs2(ha:a+(1+D*(1+W))<=N)(hok:zho (fun i=>f (a+i)) W D=true) :
 zgI ⟨(W:Int),(D:Int)⟩ (a:Int) (mk N f)=some (⟨0,0,stM (fun i=>f (a+i)) W D⟩,0,⟨mk N f⟩):=by
 have k1':zex ⟨(W:Int),(D:Int)⟩ (some ⟨mk N f⟩) (a:Int) 1=some true:=zlI hf hW1 hW hD1 hD hN (a:=a) 1 (by omega) ha
 have m1':zgJ ⟨(W:Int),(D:Int)⟩ (a:Int) (mk N f)=some _:=zv5 hf hW1 hW hD1 hD hN ha hok
 unfold zgI
 dsimp only [Tree.run0,Tree.run]
 rw[k1',m1'];rfl
theorem zmy(ha:a+(3+D*(1+W))<=N)(hok:zeC (fun i=>f (a+i)) W D=true) :
 zeT (a:Int) (W:Int) (D:Int) (mk N f)=some (⟨(W:Int),(D:Int)⟩,ptR (fun i=>f (a+i)) W D,0,⟨mk N f⟩):=by
 have k1':zex ⟨(W:Int),(D:Int)⟩ (some ⟨mk N f⟩) (a:Int) 3=some true:=zlI hf hW1 hW hD1 hD hN (a:=a) 3 (by omega) ha
 have m1':zgH ⟨(W:Int),(D:Int)⟩ (a:Int) (mk N f)=some _:=zBc hf hW1 hW hD1 hD hN ha hok
 unfold zeT
 dsimp only [Tree.run0,Tree.run]
 rw[zls hf hW1 hW hD1 hD hN,k1',m1'];rfl
theorem zox(ha:a+(3+D*(1+W))<=N){first:Nat}(hfi:first<D){lost:Int}{ms:List (List Int)}(hms : ∀ m ∈ ms,zcp W m)(hl:ms.length<=D) :
 zgG ⟨(W:Int),(D:Int)⟩ (a:Int) ⟨(first:Int),lost,ms⟩ (mk N f)=some ⟨mk N (over f a (3+D*(1+W)) (zgp D W first lost ms))⟩:=by
 have hlt:=zhR hms hl hfi
 have k1:=zAr hf hW1 hW hD1 hD hN (a:=a) (h:=3) (by omega) (first:=zb6 first ms) hlt (lost:=lost) hms hl (zqk first lost ms) ha
 have e:mk 3 (zqk first lost ms)=[((zb6 first ms:Nat):Int),u32.wrap (ms.length:Int),lost]:=by
  rw[zbQ (by omega) (by omega)];rfl
 rw[e]at k1
 have k1':zeU ⟨(W:Int),(D:Int)⟩ (a:Int) ⟨((zb6 first ms:Nat):Int),lost,ms⟩ [((zb6 first ms:Nat):Int),u32.wrap (ms.length:Int),lost] (mk N f)=some _:=k1
 have h7:zkc ⟨(W:Int),(D:Int)⟩ (a:Int) ⟨(first:Int),lost,ms⟩ (mk N f) (.l7 ((zb6 first ms:Nat):Int))=some ⟨mk N (over f a (3+D*(1+W)) (zgp D W first lost ms))⟩:=by
  rw[zxZ]
  simp only[ztq,k1',cnT,id,Tree.run,Option.bind_some]
  rfl
 unfold zgG zzO
 dsimp only [Tree.run0,Tree.run]
 show cond ((ms.length:Int)==0) (zkc ⟨(W:Int),(D:Int)⟩ (a:Int) ⟨(first:Int),lost,ms⟩ (mk N f) (.l7 0)) (zkc ⟨(W:Int),(D:Int)⟩ (a:Int) ⟨(first:Int),lost,ms⟩ (mk N f) (.l7 (first:Int)))=_
 unfold zb6 at h7
 by_cases c:ms.length=0
 . rw[if_pos c]at h7
   rw[c];exact h7
 . rw[if_neg c]at h7
   have:((ms.length:Int)==0)=false:=by simpa using c
   rw[this];exact h7
theorem zI7(ha:a+(1+D*(1+W))<=N)(hok:zho (fun i=>f (a+i)) W D=true){m:List Int}(hm:zcp W m) :
 zkp (a:Int) (W:Int) (D:Int) m (mk N f)=some (if(stM (fun i=>f (a+i)) W D).length=D then(false,0,⟨mk N f⟩)else(true,0,⟨mk N (over f a (1+D*(1+W)) (zfM D W (stM (fun i=>f (a+i)) W D++[m])))⟩)):=by
 obtain ⟨s1,s2,_⟩:=zqT (hf.sh a) hok
 have k1':zgI ⟨(W:Int),(D:Int)⟩ (a:Int) (mk N f)=some _:=zs2 hf hW1 hW hD1 hD hN ha hok
 generalize stM (fun i=>f (a+i)) W D=ms at *
 obtain ⟨m1,m2,m3⟩:=hm
 have c1:((m.length:Int)==0)=false:=by
  cases h:((m.length:Int)==0)with
  | false=>rfl
  | true=>exact absurd (by simpa using h) (show ¬ m.length=0 by omega)
 unfold zkp
 dsimp only [Tree.run0,Tree.run]
 rw[zls hf hW1 hW hD1 hD hN,c1,decide_eq_false (show ¬ (m.length:Int)>(W:Int)by omega),k1']
 by_cases c:ms.length=D
 . rw[if_pos c]
   show cond ((ms.length:Int)==(D:Int)) _ _=_
   rw[c,beq_self_eq_true];rfl
 . rw[if_neg c]
   have c2:((ms.length:Int)==(D:Int))=false:=by
    cases h:((ms.length:Int)==(D:Int))with
    | false=>rfl
    | true=>exact absurd (by have:=eq_of_beq h;omega) c
   have hms' : ∀ x ∈ ms++[m],zcp W x:=fun x hx=>by
    rcases List.mem_append.1 hx with h | h
    . exact s1 x h
    . rw[List.mem_singleton.1 h];exact⟨m1,m2,m3⟩
   have hl':(ms++[m]).length<=D:=by rw[List.length_append,List.length_singleton];omega
   have q1:=zAr hf hW1 hW hD1 hD hN (a:=a) (h:=1) (by omega) (first:=0) (by omega) (lost:=0) hms' hl' (fun _=>((ms++[m]).length:Int)) ha
   have e:mk 1 (fun _=>((ms++[m]).length:Int))=[u32.wrap ((ms++[m]).length:Int)]:=by
    rw[zbQ (by omega) (by omega)];rfl
   rw[e]at q1
   have q1':zeU ⟨(W:Int),(D:Int)⟩ (a:Int) ⟨0,0,ms++[m]⟩ [u32.wrap ((ms++[m]).length:Int)] (mk N f)=some _:=q1
   simp only[Option.bind_some,beq_self_eq_true,Bool.not_true,Bool.not_false,cnT,cnF,c2,List.length_singleton,za0 (show(ms.length+1)*24<=140737488355328 by omega),q1']
   rfl
theorem zxI(ha:a+(1+D*(1+W))<=N)(hok:zho (fun i=>f (a+i)) W D=true) :
 zkq (a:Int) (W:Int) (D:Int) (mk N f)=some (((stM (fun i=>f (a+i)) W D).length:Int),0,⟨mk N f⟩):=by
 have k1':zgI ⟨(W:Int),(D:Int)⟩ (a:Int) (mk N f)=some _:=zs2 hf hW1 hW hD1 hD hN ha hok
 unfold zkq
 dsimp only [Tree.run0,Tree.run]
 rw[zls hf hW1 hW hD1 hD hN,k1'];rfl
theorem zBg(ha:a+(3+D*(1+W))<=N)(hok:zeC (fun i=>f (a+i)) W D=true) :
 zie (a:Int) (W:Int) (D:Int) (mk N f)=some (((ptM (fun i=>f (a+i)) W D).length:Int),f (a+2),0,⟨mk N f⟩):=by
 have k1':zeT (a:Int) (W:Int) (D:Int) (mk N f)=some _:=zmy hf hW1 hW hD1 hD hN ha hok
 unfold zie
 dsimp only [Tree.run0,Tree.run]
 rw[k1'];rfl
theorem zDC(ha:a+(3+D*(1+W))<=N)(hok:zeC (fun i=>f (a+i)) W D=true) :
 zko (a:Int) (W:Int) (D:Int) (mk N f)=some (zW (ptM (fun i=>f (a+i)) W D) 0,decide (1<=(ptM (fun i=>f (a+i)) W D).length),0,⟨mk N f⟩):=by
 have k1':zeT (a:Int) (W:Int) (D:Int) (mk N f)=some _:=zmy hf hW1 hW hD1 hD hN ha hok
 unfold zko
 dsimp only [Tree.run0,Tree.run]
 rw[k1']
 unfold ptR
 generalize ptM (fun i=>f (a+i)) W D=ms
 cases ms with
 | nil=>rfl
 | cons x xs=>
  have:(((x :: xs).length:Int)==0)=false:=by
   cases h:(((x :: xs).length:Int)==0)with
   | false=>rfl
   | true=>exact absurd (show(((x :: xs).length:Int))=0 by simpa using h) (by rw[List.length_cons];omega)
  simp only[Option.bind_some,beq_self_eq_true,Bool.not_true,cnT,cnF,this,zbA (x:=0) (n:=(x :: xs).length) (Int.le_refl 0) (by rw[List.length_cons];omega),decide_eq_true (show 1<=(x :: xs).length by rw[List.length_cons];omega)]
theorem zDD(ha:a+(3+D*(1+W))<=N)(hok:zeC (fun i=>f (a+i)) W D=true) :
 zib (a:Int) (W:Int) (D:Int) (mk N f)=some (if(ptM (fun i=>f (a+i)) W D).length=0 then(false,0,⟨mk N f⟩)else(true,0,⟨mk N (over f a (3+D*(1+W)) (zgp D W (((f (a+0)).toNat+1) % D) (f (a+2)) ((ptM (fun i=>f (a+i)) W D).drop 1)))⟩)):=by
 obtain ⟨s1,s2,_⟩:=zmA (hf.sh a) hok
 obtain ⟨h1,_,_,_⟩:=qpt_iff.1 hok
 have h1':f (a+0)<(D:Int):=h1
 have h0:=(hf (a+0)).1
 have k1':zeT (a:Int) (W:Int) (D:Int) (mk N f)=some (⟨(W:Int),(D:Int)⟩,⟨f (a+0),f (a+2),ptM (fun i=>f (a+i)) W D⟩,0,⟨mk N f⟩):=zmy hf hW1 hW hD1 hD hN ha hok
 generalize ptM (fun i=>f (a+i)) W D=ms at *
 have eD:u32.wrap (D:Int)=(D:Int):=zbQ (by omega) (by omega)
 have e1:u32.wrap (f (a+0)+1)=(((f (a+0)).toNat+1:Nat):Int):=by rw[zbQ (by omega) (by omega)];omega
 have er : ∀ x y:Nat,dv .rem .u32 (x:Int) (y:Int)=((x % y:Nat):Int):=fun x y=>by
  show Int.tmod (x:Int) (y:Int)=_
  rw[Int.tmod_eq_emod_of_nonneg (Int.natCast_nonneg x)]
  exact(Int.natCast_emod x y).symm
 unfold zib
 dsimp only [Tree.run0,Tree.run]
 rw[k1',Option.bind_some]
 simp only[eD,e1,er,tnC,List.take_length]
 by_cases c:ms.length=0
 . rw[if_pos c]
   show cond ((ms.length:Int)==0) _ _=_
   rw[c];rfl
 . rw[if_neg c]
   have c2:((ms.length:Int)==0)=false:=by
    cases h:((ms.length:Int)==0)with
    | false=>rfl
    | true=>exact absurd (by simpa using h) c
   have q1':zgG ⟨(W:Int),(D:Int)⟩ (a:Int) ⟨((((f (a+0)).toNat+1) % D:Nat):Int),f (a+2),ms.drop 1⟩ (mk N f)=some _:=zox hf hW1 hW hD1 hD hN ha (first:=((f (a+0)).toNat+1) % D) (Nat.mod_lt _ (by omega)) (lost:=f (a+2)) (ms:=ms.drop 1) (fun x hx=>s1 x (List.mem_of_mem_drop hx)) (by rw[List.length_drop];omega)
   rw[c2,q1',decide_eq_false (show ¬ (D:Int)=0 by omega),inS_iff.2 (show 0<=(1:Int)/\(1:Int)<=(ms.length:Int)/\(ms.length:Int)<=(ms.length:Int)from⟨by omega,by omega,by omega⟩)]
   rfl
end
def zyV(D:Nat)(x:Int × List (List Int))(m:List Int):Int × List (List Int):=if x.2.length<D then(x.1,x.2++[m])else if x.1<4294967295 then(x.1+1,x.2)else x
def zhn(D:Nat)(x:Int × List (List Int))(sm:List (List Int)):Nat->Int × List (List Int)
 | 0=>x
 | t+1=>zyV D (zhn D x sm t) (zW sm t)
def zmx(h:Nat->Int)(W D:Nat)(sm:List (List Int)):Nat->Int:=zgp D W (h 0).toNat (zhn D (h 2,ptM h W D) sm sm.length).1 (zhn D (h 2,ptM h W D) sm sm.length).2
def opQ(f:Nat->Int)(ps:Nat->Nat)(W D:Nat)(sm:List (List Int))(j:Nat)(g:Nat->Int):Nat->Int:=over g (ps j) (3+D*(1+W)) (zmx (fun i=>f (ps j+i)) W D sm)
structure zus(W D:Nat)(x:Int × List (List Int)):Prop where
 lost:0<=x.1/\x.1<4294967296
 len:x.2.length<=D
 ok : ∀ m ∈ x.2,zcp W m
theorem zpF{W D:Nat}{x:Int × List (List Int)}(hx:zus W D x){sm:List (List Int)}(hs : ∀ m ∈ sm,zcp W m)(t:Nat)(ht:t<=sm.length):zus W D (zhn D x sm t):=by
 induction t with
 | zero=>exact hx
 | succ t ih=>
  obtain ⟨h1,h2,h3⟩:=ih (by omega)
  show zus W D (zyV D (zhn D x sm t) (zW sm t))
  unfold zyV
  split
  . rename_i c
    refine⟨h1,?_,fun m hm=>?_⟩
    . show(_++[_]).length<=D
      rw[List.length_append,List.length_singleton];omega
    . rcases List.mem_append.1 hm with h | h
      . exact h3 m h
      . rw[List.mem_singleton.1 h];exact hs _ (ziv (by omega))
  . split
    . refine⟨?_,h2,h3⟩
      constructor <;> (simp only;omega)
    . exact⟨h1,h2,h3⟩
theorem zBf{h:Nat->Int}(hf:U32 h){W D:Nat}(hok:zeC h W D=true):zus W D (h 2,ptM h W D):=by
 obtain ⟨s1,s2,_⟩:=zmA hf hok
 exact⟨hf 2,s2,s1⟩
theorem zr9{h:Nat->Int}(hf:U32 h){W D:Nat}(hD:D<=8)(hW:W<=16)(hok:zeC h W D=true){sm:List (List Int)}(hs : ∀ m ∈ sm,zcp W m):zeC (zmx h W D sm) W D=true/\U32 (zmx h W D sm):=by
 obtain ⟨a1,a2,a3⟩:=zpF (zBf hf hok) hs sm.length (Nat.le_refl _)
 have h0:=(hf 0).1
 have hfi:(h 0).toNat<D:=by have:=(qpt_iff.1 hok).1;omega
 exact⟨zr8 a3 a2 hfi,zvm a3 a2 hfi hD hW a1⟩
theorem zAN(a:Nat):Nat.max a 0=a:=by show max a 0=a;omega
theorem nz{n:Nat}(h : ¬ n=0):((n:Int)==0)=false:=by
 cases c:((n:Int)==0)with
 | false=>rfl
 | true=>exact absurd (by have:=eq_of_beq c;omega) h
def zcW(f:Nat->Int)(ps:Nat->Nat)(W D i:Nat):List zU:=(List.range i).map fun j=>ptR (fun i=>f (ps j+i)) W D
theorem zoP(f:Nat->Int)(ps:Nat->Nat)(W D i:Nat):(zcW f ps W D i).length=i:=by simp[zcW]
theorem zBu(f:Nat->Int)(ps:Nat->Nat)(W D:Nat){i j:Nat}(h:j<i):zhH (zcW f ps W D i) j=ptR (fun i=>f (ps j+i)) W D:=by simp[zcW,zhH,List.getD,h]
section
variable {f:Nat->Int} (hf:U32 f) {W D:Nat} (hW1:1<=W) (hW:W<=16) (hD1:1<=D) (hD:D<=8) {N a:Nat} (hN:N<=100000) {k:Nat} (hk:k<=4) {ps:Nat->Nat}
include hf hW1 hW hD1 hD hN hk
theorem zly{op:Nat->(Nat->Int)->Nat->Int}(ho : ∀ j g,j<k->U32 g->U32 (op j g)) : ∀ i,i<=k->U32 (za3 f op i):=by
 intro i
 induction i with
 | zero=>exact fun _=>hf
 | succ i ih=>exact fun h=>ho i _ (by omega) (ih (by omega))
theorem zI6(hst:a+(1+D*(1+W))<=N)(hpt : ∀ j,j<k->ps j+(3+D*(1+W))<=N)(hs:zho (fun i=>f (a+i)) W D=true)(hp : ∀ j,j<k->zeC (fun i=>f (ps j+i)) W D=true) :
 zkr (a:Int) (W:Int) (D:Int) (mk k fun j=>(ps j:Int)) (mk N f)=some (0,⟨mk N (over (za3 f (opQ f ps W D (stM (fun i=>f (a+i)) W D)) k) a (1+D*(1+W)) (zfM D W []))⟩):=by
 obtain ⟨s1,s2,_⟩:=zqT (hf.sh a) hs
 have t1':zex ⟨(W:Int),(D:Int)⟩ (some ⟨mk N f⟩) (a:Int) 1=some true:=zlI hf hW1 hW hD1 hD hN (a:=a) 1 (by omega) hst
 have m1':zgJ ⟨(W:Int),(D:Int)⟩ (a:Int) (mk N f)=some _:=zv5 hf hW1 hW hD1 hD hN hst hs
 generalize stM (fun i=>f (a+i)) W D=sm at *
 -- the ports are there
 have l0:=zK (n:=k) (f:=fun i (_:Unit)=>zbP (a:Int) (W:Int) (D:Int) (mk k fun j=>(ps j:Int)) (mk N f) (.l0 true (i:Int))) (S:=fun _=>()) (fun i hi=>by
  have k1':zex ⟨(W:Int),(D:Int)⟩ (some ⟨mk N f⟩) (ps i:Int) 3=some true:=zlI hf hW1 hW hD1 hD hN (a:=ps i) 3 (by omega) (hpt i hi)
  rw[zch]
  simp only[zeh,zP,zY hi,cnT,zn hi,tnC,zbg hi,k1',zi i (show i<4611686018427387904 by omega),Tree.run,Option.bind_some])
 have x0:zbP (a:Int) (W:Int) (D:Int) (mk k fun j=>(ps j:Int)) (mk N f) (.l0 true (k:Int))=zbP (a:Int) (W:Int) (D:Int) (mk k fun j=>(ps j:Int)) (mk N f) (.l4 (⟨0,0,sm⟩,true,⟨mk N f⟩) true 0 (mk N f) []):=by
  rw[zch]
  simp only[zeh,zP,z9 (Nat.le_refl k),cnF,m1',cnT,Bool.not_true,Tree.run,Option.bind_some]
 -- the rows
 have l4:=zK (n:=k) (f:=fun i (xs:List zU)=>zbP (a:Int) (W:Int) (D:Int) (mk k fun j=>(ps j:Int)) (mk N f) (.l4 (⟨0,0,sm⟩,true,⟨mk N f⟩) true (i:Int) (mk N f) xs)) (S:=fun i=>zcW f ps W D i) (fun i hi=>by
  have k1':zgH ⟨(W:Int),(D:Int)⟩ (ps i:Int) (mk N f)=some _:=zBc hf hW1 hW hD1 hD hN (a:=ps i) (hpt i hi) (hp i hi)
  have er:zcW f ps W D (i+1)=zcW f ps W D i++[ptR (fun j=>f (ps i+j)) W D]:=by simp[zcW,List.range_succ]
  rw[zch]
  simp only[zeh,zP,zY hi,cnT,zn hi,tnC,zbg hi,k1',zi i (show i<4611686018427387904 by omega),zoP,List.length_singleton,za0 (show(i+1)*32<=140737488355328 by omega),er,Tree.run,Option.bind_some])
 have x4:zbP (a:Int) (W:Int) (D:Int) (mk k fun j=>(ps j:Int)) (mk N f) (.l4 (⟨0,0,sm⟩,true,⟨mk N f⟩) true (k:Int) (mk N f) (zcW f ps W D k))=zbP (a:Int) (W:Int) (D:Int) (mk k fun j=>(ps j:Int)) (mk N f) (.l8 (⟨0,0,sm⟩,true,⟨mk N f⟩) 0 (mk N f) (zcW f ps W D k) 0):=by
  rw[zch]
  simp only[zeh,zP,z9 (Nat.le_refl k),cnF,Bool.not_true,Tree.run,Option.bind_some]
 -- what is laid
 have hU : ∀ i,i<=k->U32 (za3 f (opQ f ps W D sm) i):=zly hf hW1 hW hD1 hD hN hk fun j g hj hg=>zep hg fun i hi=>(zr9 (hf.sh (ps j)) hD hW (hp j hj) s1).2 i
 have l8:=zK (n:=k) (f:=fun i (xs:List Int)=>zbP (a:Int) (W:Int) (D:Int) (mk k fun j=>(ps j:Int)) (mk N f) (.l8 (⟨0,0,sm⟩,true,⟨mk N f⟩) (i:Int) xs (zcW f ps W D k) i)) (S:=fun i=>mk N (za3 f (opQ f ps W D sm) i)) (fun i hi=>by
  have hacc:=zBf (hf.sh (ps i)) (hp i hi)
  obtain ⟨a1,a2,a3⟩:=zpF hacc s1 sm.length (Nat.le_refl _)
  have h0:0<=f (ps i+0):=((hf.sh (ps i)) 0).1
  have hfi:(f (ps i+0)).toNat<D:=by have h1:f (ps i+0)<(D:Int):=(qpt_iff.1 (hp i hi)).1;omega
  have ef:(((f (ps i+0)).toNat:Nat):Int)=f (ps i+0):=by omega
  have q1:=zox (hU i (by omega)) hW1 hW hD1 hD hN (hpt i hi) hfi (lost:=(zhn D (f (ps i+2),ptM (fun j=>f (ps i+j)) W D) sm sm.length).1) a3 a2
  rw[ef]at q1
  have hes:over (za3 f (opQ f ps W D sm) i) (ps i) (3+D*(1+W)) (zgp D W (f (ps i+0)).toNat (zhn D (f (ps i+2),ptM (fun j=>f (ps i+j)) W D) sm sm.length).1 (zhn D (f (ps i+2),ptM (fun j=>f (ps i+j)) W D) sm sm.length).2)=za3 f (opQ f ps W D sm) (i+1):=rfl
  rw[hes]at q1
  have hat:ptR (fun j=>f (ps i+j)) W D=⟨f (ps i+0),f (ps i+2),ptM (fun j=>f (ps i+j)) W D⟩:=rfl
  have hpe:ps i+0=ps i:=rfl
  generalize hy0:f (ps i+0)=y0 at *
  generalize hx:(f (ps i+2),ptM (fun j=>f (ps i+j)) W D)=x at *
  have hx1:f (ps i+2)=x.1:=by rw[← hx]
  have hx2:ptM (fun j=>f (ps i+j)) W D=x.2:=by rw[← hx]
  have q1':zgG ⟨(W:Int),(D:Int)⟩ (ps i:Int) ⟨y0,(zhn D x sm sm.length).1,(zhn D x sm sm.length).2⟩ (mk N (za3 f (opQ f ps W D sm) i))=some _:=q1
  have inner:=zK (n:=sm.length) (f:=fun t (y:Int × List (List Int))=>zbP (a:Int) (W:Int) (D:Int) (mk k fun j=>(ps j:Int)) (mk N f) (.l12 (⟨0,0,sm⟩,true,⟨mk N f⟩) (ps i:Int) (i:Int) (t:Int) (mk N (za3 f (opQ f ps W D sm) i)) (zcW f ps W D k) (i+1) y0 y.1 y.2)) (S:=fun t=>zhn D x sm t) (fun t ht=>by
   obtain ⟨b1,b2,b3⟩:=zpF hacc s1 t (by omega)
   have h75 : ∀ (z4:Int) (z5:List (List Int)),zbP (a:Int) (W:Int) (D:Int) (mk k fun j=>(ps j:Int)) (mk N f) (.l75 (⟨0,0,sm⟩,true,⟨mk N f⟩) (ps i:Int) (i:Int) (t:Int) (mk N (za3 f (opQ f ps W D sm) i)) (zcW f ps W D k) (i+1) y0 z4 z5)=zbP (a:Int) (W:Int) (D:Int) (mk k fun j=>(ps j:Int)) (mk N f) (.l12 (⟨0,0,sm⟩,true,⟨mk N f⟩) (ps i:Int) (i:Int) ((t+1:Nat):Int) (mk N (za3 f (opQ f ps W D sm) i)) (zcW f ps W D k) (i+1) y0 z4 z5):=fun z4 z5=>by
    rw[zch]
    simp only[zeh,zi t (show t<4611686018427387904 by omega),zAN,Tree.run,Option.bind_some]
   have hs1:zhn D x sm (t+1)=zyV D (zhn D x sm t) (zW sm t):=rfl
   rw[hs1]
   generalize zhn D x sm t=y at *
   rw[zch]
   simp only[zeh,m1',zY ht,cnT,zn ht,tnC,h75,List.length_singleton,Tree.run,Option.bind_some]
   unfold zyV
   by_cases c:y.2.length<D
   . rw[decide_eq_true (show((y.2.length:Nat):Int)<(D:Int)by omega),cnT,za0 (show(y.2.length+1)*24<=140737488355328 by omega),cnT,if_pos c]
   . rw[decide_eq_false (show ¬ ((y.2.length:Nat):Int)<(D:Int)by omega),cnF,if_neg c]
     by_cases c2:y.1<4294967295
     . rw[decide_eq_true c2,cnT,if_pos c2,zbQ (by omega) (by omega)]
     . rw[decide_eq_false c2,cnF,if_neg c2])
  have last:zbP (a:Int) (W:Int) (D:Int) (mk k fun j=>(ps j:Int)) (mk N f) (.l12 (⟨0,0,sm⟩,true,⟨mk N f⟩) (ps i:Int) (i:Int) (sm.length:Int) (mk N (za3 f (opQ f ps W D sm) i)) (zcW f ps W D k) (i+1) y0 (zhn D x sm sm.length).1 (zhn D x sm sm.length).2)=zbP (a:Int) (W:Int) (D:Int) (mk k fun j=>(ps j:Int)) (mk N f) (.l8 (⟨0,0,sm⟩,true,⟨mk N f⟩) ((i+1:Nat):Int) (mk N (za3 f (opQ f ps W D sm) (i+1))) (zcW f ps W D k) (i+1)):=by
   rw[zch]
   simp only[zeh,m1',z9 (Nat.le_refl _),cnF,q1',cnT,zi i (show i<4611686018427387904 by omega),zAN,Tree.run,Option.bind_some]
  have go:zbP (a:Int) (W:Int) (D:Int) (mk k fun j=>(ps j:Int)) (mk N f) (.l12 (⟨0,0,sm⟩,true,⟨mk N f⟩) (ps i:Int) (i:Int) 0 (mk N (za3 f (opQ f ps W D sm) i)) (zcW f ps W D k) (i+1) y0 x.1 x.2)=zbP (a:Int) (W:Int) (D:Int) (mk k fun j=>(ps j:Int)) (mk N f) (.l8 (⟨0,0,sm⟩,true,⟨mk N f⟩) ((i+1:Nat):Int) (mk N (za3 f (opQ f ps W D sm) (i+1))) (zcW f ps W D k) (i+1)):=inner.trans last
  have hb:Nat.ble i i=true:=Nat.ble_self_eq_true i
  have hmax:Nat.max (i+1) (Nat.max i 0)=i+1:=by rw[zAN];show max (i+1) i=i+1;omega
  rw[zch]
  simp only[zeh,zP,zY hi,cnT,zn hi,tnC,zbg hi,zoP,zBu f ps W D hi,hb,Bool.and_self,hmax,hat,hx1,hx2,go,Tree.run,Option.bind_some])
 have w1':zeU ⟨(W:Int),(D:Int)⟩ (a:Int) ⟨0,0,[]⟩ [0] (mk N (za3 f (opQ f ps W D sm) k))=some (⟨mk N (over (za3 f (opQ f ps W D sm) k) a (1+D*(1+W)) (zfM D W []))⟩):=zAr (hU k (Nat.le_refl _)) hW1 hW hD1 hD hN (a:=a) (h:=1) (by omega) (first:=0) (by omega) (lost:=0) (ms:=[]) (fun m hm=>absurd hm List.not_mem_nil) (Nat.zero_le _) (fun _=>0) hst
 unfold zkr zzV
 dsimp only [Tree.run0,Tree.run]
 rw[zls hf hW1 hW hD1 hD hN,zP,decide_eq_false (show ¬ (k:Int)>4 by omega),t1',Option.bind_some]
 refine(show zbP (a:Int) (W:Int) (D:Int) (mk k fun j=>(ps j:Int)) (mk N f) (.l0 true 0)=_ from l0).trans (x0.trans ?_)
 refine(show zbP (a:Int) (W:Int) (D:Int) (mk k fun j=>(ps j:Int)) (mk N f) (.l4 (⟨0,0,sm⟩,true,⟨mk N f⟩) true 0 (mk N f) [])=_ from l4).trans (x4.trans ?_)
 refine(show zbP (a:Int) (W:Int) (D:Int) (mk k fun j=>(ps j:Int)) (mk N f) (.l8 (⟨0,0,sm⟩,true,⟨mk N f⟩) 0 (mk N f) (zcW f ps W D k) 0)=_ from l8).trans ?_
 rw[zch]
 simp only[zeh,zP,z9 (Nat.le_refl k),cnF,w1',cnT,id,Tree.run,Option.bind_some]
end
noncomputable def stB(x:zI)(g:Nat->Int):Bool:=if x.kind=2 then zho g x.words.toNat x.depth.toNat else zbO g 2 x.words.toNat
noncomputable def ptB(x:zI)(g:Nat->Int):Bool:=if x.kind=2 then zeC g x.words.toNat x.depth.toNat else zbO g 3 x.words.toNat
theorem zv7{x:zI}(h:x.kind=1):stg x=2+x.words.toNat:=if_pos h
theorem zv8{x:zI}(h:x.kind=2):stg x=1+x.depth.toNat*(1+x.words.toNat):=by
 unfold stg body;rw[if_neg (by omega),if_neg (by omega)]
theorem zvn{x:zI}(h:x.kind=1):prt x=3+x.words.toNat:=by unfold prt body;rw[if_pos h]
theorem zvo{x:zI}(h:x.kind=2):prt x=3+x.depth.toNat*(1+x.words.toNat):=by unfold prt body;rw[if_neg (by omega)]
theorem zmF{f g:Nat->Int}{W D first:Nat}{many:Int}(he : ∀ i,i<D*(1+W)->f i=g i)(h:zfZ f W D first many=true):zfZ g W D first many=true:=by
 refine zqq fun i hi=>okQ_iff.2 ?_
 have h1:=Nat.mod_lt (first+i) (show D>0 by omega)
 have h2:((first+i) % D+1)*(1+W)<=D*(1+W):=Nat.mul_le_mul_right _ h1
 rw[Nat.add_mul,Nat.one_mul]at h2
 obtain ⟨⟨g1,g2⟩,g3⟩:=okQ_iff.1 (zlE h hi)
 rw[he _ (by omega)]at g1 g2 g3
 refine⟨⟨g1,fun j hj=>?_⟩,g3⟩
 have:=g2 j hj
 rw[he _ (by omega)]at this
 exact this
theorem zoM{f g:Nat->Int}{W D:Nat}(he : ∀ i,i<1+D*(1+W)->f i=g i)(h:zho f W D=true):zho g W D=true:=by
 obtain ⟨h1,h2⟩:=qst_iff.1 h
 rw[he 0 (by omega)]at h1 h2
 exact qst_iff.2 ⟨h1,zmF (fun i hi=>he _ (by omega)) h2⟩
theorem zoL{f g:Nat->Int}{W D:Nat}(he : ∀ i,i<3+D*(1+W)->f i=g i)(h:zeC f W D=true):zeC g W D=true:=by
 obtain ⟨h1,h2,h3,h4⟩:=qpt_iff.1 h
 rw[he 0 (by omega)]at h1 h3 h4
 rw[he 1 (by omega)]at h2 h3 h4
 exact qpt_iff.2 ⟨h1,h2,h3,zmF (fun i hi=>he _ (by omega)) h4⟩
theorem zcL{x:zI}(hx:zbZ x){f g:Nat->Int}(he : ∀ i,i<stg x->f i=g i)(h:stB x f=true):stB x g=true:=by
 unfold stB at h ⊢
 rcases hx.kind with hk | hk
 . rw[if_neg (by omega)]at h ⊢
   rw[zv7 hk]at he
   rw[← zes (.inl rfl) he];exact h
 . rw[if_pos hk]at h ⊢
   rw[zv8 hk]at he
   exact zoM he h
theorem zcF{x:zI}(hx:zbZ x){f g:Nat->Int}(he : ∀ i,i<prt x->f i=g i)(h:ptB x f=true):ptB x g=true:=by
 unfold ptB at h ⊢
 rcases hx.kind with hk | hk
 . rw[if_neg (by omega)]at h ⊢
   rw[zvn hk]at he
   rw[← zes (.inr rfl) he];exact h
 . rw[if_pos hk]at h ⊢
   rw[zvo hk]at he
   exact zoL he h
theorem zoN(W D first:Nat):zfZ (fun _=>0) W D first 0=true:=zqq fun i hi=>okQ_iff.2 ⟨⟨by omega,fun _ _=>rfl⟩,by omega⟩
theorem zBT{x:zI}(hx:zbZ x){f:Nat->Int}(hz : ∀ i,i<stg x->f i=0):stB x f=true:=by
 refine zcL hx (f:=fun _=>0) (fun i hi=>(hz i hi).symm) ?_
 unfold stB
 split
 . exact qst_iff.2 ⟨by omega,zoN _ _ _⟩
 . exact zj8 fun _ _=>rfl
theorem zBe{x:zI}(hx:zbZ x){f:Nat->Int}(hz : ∀ i,i<prt x->f i=0):ptB x f=true:=by
 refine zcF hx (f:=fun _=>0) (fun i hi=>(hz i hi).symm) ?_
 unfold ptB
 split
 . rename_i h
   have:=(hx.depth.1 h).1
   exact qpt_iff.2 ⟨by show(0:Int)<_;omega,by omega,.inr rfl,zoN _ _ _⟩
 . exact zj8 fun _ _=>rfl
section
variable {f:Nat->Int} {q:Nat->Nat} {n:Nat} {h:Nat->Nat->Int}
theorem zg1{i:Nat} : ∀ k,(∀ j,j<k->¬ (q j<=i/\i<q j+n))->za3 f (fun j g=>over g (q j) n (h j)) k i=f i
 | 0,_=>rfl
 | k+1,hn=>by
  show over (za3 f (fun j g=>over g (q j) n (h j)) k) (q k) n (h k) i=f i
  rw[zaE (hn k (by omega)),zg1 k fun j hj=>hn j (by omega)]
theorem ziE{j i:Nat}(hi:i<n) : ∀ k,j<k->(∀ a b,a<k->b<a->q b+n<=q a ∨ q a+n<=q b)->za3 f (fun j g=>over g (q j) n (h j)) k (q j+i)=h j i
 | 0,hj,_=>absurd hj (by omega)
 | k+1,hj,hd=>by
  show over (za3 f (fun j g=>over g (q j) n (h j)) k) (q k) n (h k) (q j+i)=h j i
  by_cases hjk:j=k
  . subst hjk;exact zg7 hi
  . have:=hd k j (by omega) (by omega)
    rw[zaE (by omega),ziE hi k (by omega) fun a b ha hb=>hd a b (by omega) hb]
end
noncomputable def zjs(x:zI)(a k:Nat)(ps:Nat->Nat)(f:Nat->Int):Nat->Int:=
 if x.kind=2 then over (za3 f (opQ f ps x.words.toNat x.depth.toNat (stM (fun i=>f (a+i)) x.words.toNat x.depth.toNat)) k) a (1+x.depth.toNat*(1+x.words.toNat)) (zfM x.depth.toNat x.words.toNat [])
 else if stN (fun i=>f (a+i)) 2 x.words.toNat=0 then za3 f (zmq ps) k
 else over (za3 f (zk1 ps x.words.toNat (stN (fun i=>f (a+i)) 2 x.words.toNat) fun i=>f (a+(2+i))) k) a (2+x.words.toNat) fun _=>0
structure zlL(x:zI)(a k:Nat)(ps:Nat->Nat)(f f':Nat->Int):Prop where
 u:U32 f'
 st:stB x (fun i=>f' (a+i))=true
 pt : ∀ j,j<k->ptB x (fun i=>f' (ps j+i))=true
 out : ∀ i,¬ (a<=i/\i<a+stg x)->(∀ j,j<k->¬ (ps j<=i/\i<ps j+prt x))->f' i=f i
theorem zJm{f:Nat->Int}{W:Nat}(hok:zbO f 2 W=true):stN f 2 W<=W:=by
 unfold stN zbk
 cases c1:(List.range (2+W)).any fun i=>!(f i==0)with
 | false=>exact Nat.zero_le _
 | true=>
  cases c2:zfb f 2 W with
  | false=>exact Nat.zero_le _
  | true=>
   simp only[cnT,zP]
   unfold zfb zeo at c2
   simp only[Bool.and_eq_true,decide_eq_true_eq]at c2
   omega
theorem zBv{f:Nat->Int}{W:Nat}(h:zbO f 3 W=true):zbO (fun i=>if i=1 then 0 else f i) 3 W=true:=by
 unfold zbO at h ⊢
 rw[Bool.or_eq_true]at h ⊢
 rcases h with h | h
 . left
   rw[Bool.not_eq_true',any_f]at h ⊢
   intro i hi
   have:=h i hi
   simp only
   split
   . rfl
   . exact this
 . right
   simp only[Bool.and_eq_true]at h ⊢
   obtain ⟨⟨h1,h2⟩,h3⟩:=h
   refine⟨⟨by simpa using h1,by simp⟩,?_⟩
   unfold zeo at h3 ⊢
   have e:(List.range (W-(if(3-1=1)then(0:Int)else f (3-1)).toNat)).any (fun i=>!((if 3+(if(3-1=1)then(0:Int)else f (3-1)).toNat+i=1 then(0:Int)else f (3+(if(3-1=1)then(0:Int)else f (3-1)).toNat+i))==0))=(List.range (W-(f (3-1)).toNat)).any (fun i=>!(f (3+(f (3-1)).toNat+i)==0)):=by
    rw[if_neg (by decide)]
    refine zhG fun i hi=>?_
    rw[if_neg (by omega)]
   rw[e]
   simpa using h3
section
variable {F:Nat} {f:Nat->Int} (hf:U32 f) (hF:F<=1024) {x:zI} (hx:zbZ x) {a k:Nat} (hk1:1<=k) (hk:k<=4) {ps:Nat->Nat} (hA:zyc (16*F) a (stg x) (prt x) k ps) (hs:stB x (fun i=>f (a+i))=true) (hp : ∀ j,j<k->ptB x (fun i=>f (ps j+i))=true)
include hf hF hx hk1 hk hA hs hp
theorem zJr(h2:x.kind=2):zeW ⟨⟨(a:Int),x.words,mk k fun j=>(ps j:Int)⟩,x.depth⟩ (mk (16*F) f)=some (0,⟨mk (16*F) (zjs x a k ps f)⟩)/\zlL x a k ps f (zjs x a k ps f):=by
 obtain ⟨w1,w2⟩:=hx.words
 obtain ⟨d1,d2⟩:=hx.depth.1 h2
 have hA':=hA
 rw[zv8 h2,zvo h2]at hA
 obtain ⟨W,hW⟩ : ∃ W:Nat,x.words=(W:Int):=⟨x.words.toNat,by omega⟩
 obtain ⟨D,hD⟩ : ∃ D:Nat,x.depth=(D:Int):=⟨x.depth.toNat,by omega⟩
 have eW:x.words.toNat=W:=by omega
 have eD:x.depth.toNat=D:=by omega
 have eT:zjs x a k ps f=over (za3 f (opQ f ps W D (stM (fun i=>f (a+i)) W D)) k) a (1+D*(1+W)) (zfM D W []):=by unfold zjs;rw[if_pos h2,eW,eD]
 have eS:stg x=1+D*(1+W):=by rw[zv8 h2,eW,eD]
 have eP:prt x=3+D*(1+W):=by rw[zvo h2,eW,eD]
 have bS : ∀ g,stB x g=zho g W D:=fun g=>by unfold stB;rw[if_pos h2,eW,eD]
 have bP : ∀ g,ptB x g=zeC g W D:=fun g=>by unfold ptB;rw[if_pos h2,eW,eD]
 rw[eW,eD]at hA
 rw[bS]at hs
 have hp' : ∀ j,j<k->zeC (fun i=>f (ps j+i)) W D=true:=fun j hj=>by rw[← bP];exact hp j hj
 obtain ⟨s1,s2,_⟩:=zqT (hf.sh a) hs
 have q1':zkr (a:Int) (W:Int) (D:Int) (mk k fun j=>(ps j:Int)) (mk (16*F) f)=some _:=zI6 hf (W:=W) (D:=D) (by omega) (by omega) (by omega) (by omega) (N:=16*F) (by omega) hk hA.stage hA.port hs hp'
 constructor
 . unfold zeW
   simp only[Tree.run,Option.bind_some,hW,hD,q1',cnT,id,eT]
 . rw[eT]
   have hw : ∀ j,j<k->zeC (zmx (fun i=>f (ps j+i)) W D (stM (fun i=>f (a+i)) W D)) W D=true/\U32 (zmx (fun i=>f (ps j+i)) W D (stM (fun i=>f (a+i)) W D)):=fun j hj=>zr9 (hf.sh (ps j)) (by omega) (by omega) (hp' j hj) s1
   have nil : ∀ m ∈ ([]:List (List Int)),zcp W m:=fun m hm=>absurd hm List.not_mem_nil
   refine⟨zep (zly hf (W:=W) (D:=D) (by omega) (by omega) (by omega) (by omega) (N:=16*F) (by omega) hk (fun j g hj hg=>zep hg fun i hi=>(hw j hj).2 i) k (Nat.le_refl _)) fun i hi=>zs1 nil (Nat.zero_le _) (by omega) (by omega) i,?_,fun j hj=>?_,fun i h1 h2=>?_⟩
   . rw[bS]
     exact zoM (fun i hi=>(zg7 hi).symm) (zpo nil (Nat.zero_le _))
   . rw[bP]
     refine zoL (fun i hi=>?_) (hw j hj).1
     have:=hA.sp j hj
     rw[zaE (by omega)]
     exact(ziE (h:=fun j=>zmx (fun i=>f (ps j+i)) W D (stM (fun i=>f (a+i)) W D)) hi k hj hA.pp).symm
   . rw[eS]at h1
     rw[eP]at h2
     rw[zaE h1]
     exact zg1 (h:=fun j=>zmx (fun i=>f (ps j+i)) W D (stM (fun i=>f (a+i)) W D)) k h2
theorem zJs (h2:x.kind=1):zeX ⟨⟨(a:Int),x.words,mk k fun j=>(ps j:Int)⟩⟩ (mk (16*F) f)=some (0,⟨mk (16*F) (zjs x a k ps f)⟩)/\zlL x a k ps f (zjs x a k ps f):=by
 obtain ⟨w1,w2⟩:=hx.words
 rw[zv7 h2,zvn h2]at hA
 obtain ⟨W,hW⟩ : ∃ W:Nat,x.words=(W:Int):=⟨x.words.toNat,by omega⟩
 have eW:x.words.toNat=W:=by omega
 have eT:zjs x a k ps f=if stN (fun i=>f (a+i)) 2 W=0 then za3 f (zmq ps) k else over (za3 f (zk1 ps W (stN (fun i=>f (a+i)) 2 W) fun i=>f (a+(2+i))) k) a (2+W) fun _=>0:=by unfold zjs;rw[if_neg (by omega),eW]
 have eS:stg x=2+W:=by rw[zv7 h2,eW]
 have eP:prt x=3+W:=by rw[zvn h2,eW]
 have bS : ∀ g,stB x g=zbO g 2 W:=fun g=>by unfold stB;rw[if_neg (by omega),eW]
 have bP : ∀ g,ptB x g=zbO g 3 W:=fun g=>by unfold ptB;rw[if_neg (by omega),eW]
 rw[eW]at hA
 rw[bS]at hs
 have hp' : ∀ j,j<k->zbO (fun i=>f (ps j+i)) 3 W=true:=fun j hj=>by rw[← bP];exact hp j hj
 have q1':zkt (a:Int) (W:Int) (mk k fun j=>(ps j:Int)) (mk (16*F) f)=some _:=zJh hf hF (W:=W) (by omega) (by omega) hk1 hk hA hs hp'
 constructor
 . unfold zeX
   simp only[Tree.run,Option.bind_some,hW,q1',cnT,id,eT]
 . rw [eT]
   have hnl:=zJm hs
   by_cases c:stN (fun i=>f (a+i)) 2 W=0
   . rw [if_pos c]
     have hq : ∀ i j,i<k->j<i->(ps j+1)+1<=ps i+1 ∨ (ps i+1)+1<=ps j+1:=fun i j hi hj=>by have:=hA.pp i j hi hj;omega
     have hout : ∀ i,(∀ j,j<k->¬ (ps j+1<=i/\i<ps j+1+1))->za3 f (zmq ps) k i=f i:=fun i h=>zg1 (q:=fun j=>ps j+1) (n:=1) (h:=fun _ _=>0) k h
     refine⟨zly hf (W:=W) (D:=1) (by omega) (by omega) (by omega) (by omega) (N:=16*F) (by omega) hk (fun j g hj hg=>zep hg fun i hi=>by omega) k (Nat.le_refl _),?_,fun j hj=>?_,fun i g1 g2=>?_⟩
     . rw[bS,zes (.inl rfl) fun i hi=>hout (a+i) fun j hj=>by have:=hA.sp j hj;omega]
       exact hs
     . rw [bP,zes (g:=fun i=>if i=1 then 0 else f (ps j+i)) (.inr rfl) fun i hi=>?_]
       . exact zBv (hp' j hj)
       . by_cases h1:i=1
         . subst h1
           rw[if_pos rfl]
           exact ziE (q:=fun j=>ps j+1) (n:=1) (h:=fun _ _=>0) (i:=0) (by omega) k hj hq
         . rw[if_neg h1]
           refine hout _ fun j' hj'=>?_
           by_cases e:j'=j
           . subst e;omega
           . rcases Nat.lt_or_gt_of_ne e with l | l
             . have:=hA.pp j j' hj l;omega
             . have:=hA.pp j' j hj' l;omega
     . rw[eP]at g2
       exact hout i fun j hj=>by have:=g2 j hj;omega
   . rw [if_neg c]
     generalize hn:stN (fun i=>f (a+i)) 2 W=n at *
     have hu:U32 (zbJ 3 n (hd3 n) fun i=>f (a+(2+i))):=fun i=>by
      unfold zbJ hd3
      split
      . split
        . constructor <;> omega
        . omega
      . split
        . exact hf _
        . omega
     refine⟨zep (zly hf (W:=W) (D:=1) (by omega) (by omega) (by omega) (by omega) (N:=16*F) (by omega) hk (fun j g hj hg=>zep hg fun i hi=>hu i) k (Nat.le_refl _)) fun i hi=>by omega,?_,fun j hj=>?_,fun i g1 g2=>?_⟩
     . rw[bS]
       exact zj8 fun i hi=>zg7 hi
     . rw[bP,zes (g:=zbJ 3 n (hd3 n) fun i=>f (a+(2+i))) (.inr rfl) fun i hi=>?_]
       . exact zoR (.inr rfl) (by omega) hnl _ _ rfl (fun _=>by unfold hd3;rw[if_neg (by decide)];omega) rfl
       . have:=hA.sp j hj
         rw[zaE (by omega)]
         exact ziE (h:=fun _=>zbJ 3 n (hd3 n) fun i=>f (a+(2+i))) hi k hj hA.pp
     . rw[eS]at g1
       rw[eP]at g2
       rw[zaE g1]
       exact zg1 (h:=fun _=>zbJ 3 n (hd3 n) fun i=>f (a+(2+i))) k g2
end
theorem zj6{N:Nat}{f:Nat->Int}{a:Nat}(hN:N<=100000)(ha:a<N):zey (some ⟨mk N f⟩) (a:Int)=some (f a,0):=by
 have k1':zfo (some ⟨mk N f⟩) (a:Int) 1=some 0:=zjr (f:=f) hN (show a+1<=N from ha)
 have h0:(some (⟨mk N f⟩:ze)).getD default=⟨mk N f⟩:=rfl
 unfold zey
 dsimp only [Tree.run0,Tree.run]
 rw[k1',h0]
 simp only[cnT,beq_self_eq_true,Bool.not_true,cnF,zP,zn ha,tnC,zbg ha,id]
 rfl
structure zpE(B:(Nat->Int)->Bool)(a n:Nat)(f f':Nat->Int):Prop where
 u:U32 f'
 ok:B (fun i=>f' (a+i))=true
 out : ∀ i,¬ (a<=i/\i<a+n)->f' i=f i
section
variable {F:Nat} {f:Nat->Int} (hf:U32 f) (hF:F<=1024) {x:zI} (hx:zbZ x) {a:Nat}
include hf hF hx
end
theorem zcP(c:za){i n:Nat}(h:i<=n):cAt c i<=cAt c n:=by
 induction n with
 | zero=>rw[Nat.le_zero.1 h];exact Nat.le_refl _
 | succ n ih=>
  by_cases hi:i<=n
  . have:=ih hi
    show cAt c i<=cAt c n+2+stg (Ch c n)+(dl c n).length*prt (Ch c n)
    omega
  . obtain rfl:i=n+1:=by omega
    exact Nat.le_refl _
theorem zle(c:za) : ∀ n,tF c 0<=tF c n
 | 0=>Nat.le_refl _
 | n+1=>Nat.le_trans (zle c n) (by show tF c n<=tF c n+_;omega)
noncomputable def psC(c:za)(k j:Nat):Nat:=dAt c k+j*prt (Ch c k)
noncomputable def sAt(c:za)(k:Nat):Nat:=cAt c k+2
noncomputable def kD(c:za)(k:Nat):Nat:=(dl c k).length
section
variable {c:za} (g:zaA c) (w:zeJ c)
include g w
theorem zih:16*tF c (nP c)<=nW c/\nW c<=16384:=by
 have h2:=w.need
 have h3:=w.room
 have h4:=g.frames
 have h5:=w.kernel
 unfold nW;omega
theorem zpX:cAt c (nC c)<=nW c:=by
 have h1:=(zih g w).1
 have h2:=zle c (nP c)
 have h3:tF c 0=(cAt c (nC c)+15) / 16:=rfl
 omega
theorem zu7{k:Nat}(hk:k<nC c):1<=kD c k/\kD c k<=4:=zuV g hk
theorem zJe{k:Nat}(hk:k<nC c):cAt c (k+1)<=nW c:=Nat.le_trans (zcP c hk) (zpX g w)
end
theorem zcd(c:za)(k:Nat):sAt c k=cAt c k+2:=rfl
theorem ziZ(c:za)(k j:Nat):sAt c k+stg (Ch c k)<=psC c k j:=by
 have:dAt c k=cAt c k+2+stg (Ch c k):=rfl
 unfold psC sAt;omega
theorem ziY(c:za){k j:Nat}(hj:j<kD c k):psC c k j+prt (Ch c k)<=cAt c (k+1):=by
 have h2:(j+1)*prt (Ch c k)<=kD c k*prt (Ch c k):=Nat.mul_le_mul_right _ hj
 rw[Nat.add_mul,Nat.one_mul]at h2
 have h3:dAt c k=cAt c k+2+stg (Ch c k):=rfl
 have h4:cAt c (k+1)=cAt c k+2+stg (Ch c k)+kD c k*prt (Ch c k):=rfl
 unfold psC;omega
theorem zhF(c:za)(k:Nat):sAt c k+stg (Ch c k)<=cAt c (k+1):=by
 have h4:cAt c (k+1)=cAt c k+2+stg (Ch c k)+kD c k*prt (Ch c k):=rfl
 unfold sAt;omega
theorem zBd(c:za){k i j:Nat}(h:j<i):psC c k j+prt (Ch c k)<=psC c k i:=by
 have h2:(j+1)*prt (Ch c k)<=i*prt (Ch c k):=Nat.mul_le_mul_right _ h
 rw[Nat.add_mul,Nat.one_mul]at h2
 unfold psC;omega
theorem zN8(c:za){k i j:Nat}(h:i ≠ j):psC c k j+prt (Ch c k)<=psC c k i ∨ psC c k i+prt (Ch c k)<=psC c k j:=by
 rcases Nat.lt_or_gt_of_ne h with l | l
 . exact .inr (zBd c l)
 . exact .inl (zBd c l)
theorem zmH(c:za){k k':Nat}(h:k ≠ k'):cAt c (k+1)<=cAt c k' ∨ cAt c (k'+1)<=cAt c k:=by
 rcases Nat.lt_or_gt_of_ne h with l | l
 . exact .inl (zcP c l)
 . exact .inr (zcP c l)
theorem zfu{c:za}(g:zaA c)(w:zeJ c){k:Nat}(hk:k<nC c):zyc (nW c) (sAt c k) (stg (Ch c k)) (prt (Ch c k)) (kD c k) (psC c k):=by
 have h1:=zJe g w hk
 have h2:=zhF c k
 refine⟨by omega,fun j hj=>?_,fun i hi=>.inl (ziZ c k i),fun i j hi hj=>.inl (zBd c hj)⟩
 have:=ziY c hj
 omega
theorem zsa(s:Nat) : ∀ (l:List LayoutEnd) (a j:Nat),j<l.length->(a+j*s,s,(⟨8,(z7 l j).partition,(z7 l j).port⟩:zbx)) ∈ za1 s a l
 | [],_,_,h=>by simp at h
 | e :: l,a,0,h=>by simp[za1,z7]
 | e :: l,a,j+1,h=>by
  have:=zsa s l (a+s) j (by simpa using h)
  have e1:a+s+j*s=a+(j+1)*s:=by rw[Nat.add_mul,Nat.one_mul];omega
  rw[e1]at this
  simp only[za1,List.mem_cons]
  right
  simpa [z7]using this
theorem zt4{c:za}{x:Pc}(hx:x ∈ zaG c){a:Nat}(ha:inP x a=true):own c a=x.2.2:=by
 unfold own
 cases h:(zaG c).find? (fun x=>inP x a)with
 | none=>
  rw[List.find?_eq_none]at h
  exact absurd ha (by simpa using h x hx)
 | some y=>
  have h1:=List.mem_of_find?_eq_some h
  have h2:=List.find?_some h
  rw[(zmd c).one h1 hx h2 ha]
theorem zxE{c:za}{k a:Nat}(hk:k<nC c)(h:sAt c k<=a/\a<sAt c k+stg (Ch c k)):own c a=⟨7,(k:Int),0⟩:=zt4 (ref_mem.2 (.stage hk)) (inP_iff.2 h)
theorem zA7{c:za}{k j a:Nat}(hk:k<nC c)(hj:j<kD c k)(h:psC c k j<=a/\a<psC c k j+prt (Ch c k)):own c a=⟨8,(z7 (dl c k) j).partition,(z7 (dl c k) j).port⟩:=
 zt4 (ref_mem.2 (.port hk (zsa (prt (Ch c k)) (dl c k) (dAt c k) j hj))) (inP_iff.2 h)
structure zdt(c:za)(f:Nat->Int):Prop where
 u:U32 f
 st : ∀ k,k<nC c->stB (Ch c k) (fun i=>f (sAt c k+i))=true
 pt : ∀ k,k<nC c->∀ j,j<kD c k->ptB (Ch c k) (fun i=>f (psC c k j+i))=true
def zCA(c:za)(k a:Nat):Prop:=k<nC c/\sAt c k<=a/\a<sAt c k+stg (Ch c k)
def zCz(c:za)(k j a:Nat):Prop:=k<nC c/\j<kD c k/\psC c k j<=a/\a<psC c k j+prt (Ch c k)
section
variable {c:za} (g:zaA c)
include g
theorem zxo{f f':Nat->Int}(hg:zdt c f){k:Nat}(hk:k<nC c)(h:zlL (Ch c k) (sAt c k) (kD c k) (psC c k) f f'):zdt c f':=by
 have key : ∀ k',k'<nC c->k' ≠ k->∀ i,cAt c k'<=i->i<cAt c (k'+1)->f' i=f i:=fun k' hk' hne i h1 h2=>by
  have hr:=zmH c hne
  refine h.out i ?_ fun j hj=>?_
  . have:=zhF c k
    have e:=zcd c k
    omega
  . have h3:=ziY c hj
    have h4:=ziZ c k j
    have e:=zcd c k
    omega
 refine⟨h.u,fun k' hk'=>?_,fun k' hk' j hj=>?_⟩
 . by_cases e:k'=k
   . subst e;exact h.st
   . refine zcL (g.chan k' hk').1 (fun i hi=>?_) (hg.st k' hk')
     have h1:=zhF c k'
     have e1:=zcd c k'
     exact(key k' hk' e _ (by omega) (by omega)).symm
 . by_cases e:k'=k
   . subst e;exact h.pt j hj
   . refine zcF (g.chan k' hk').1 (fun i hi=>?_) (hg.pt k' hk' j hj)
     have h1:=ziY c hj
     have h2:=ziZ c k' j
     have e1:=zcd c k'
     exact(key k' hk' e _ (by omega) (by omega)).symm
theorem zos{f f':Nat->Int}(hg:zdt c f){k:Nat}(hk:k<nC c)(h:zpE (stB (Ch c k)) (sAt c k) (stg (Ch c k)) f f'):zdt c f':=by
 refine⟨h.u,fun k' hk'=>?_,fun k' hk' j hj=>?_⟩
 . by_cases e:k'=k
   . subst e;exact h.ok
   . refine zcL (g.chan k' hk').1 (fun i hi=>?_) (hg.st k' hk')
     have h1:=zhF c k'
     have h2:=zhF c k
     have e1:=zcd c k'
     have e2:=zcd c k
     have hr:=zmH c e
     exact(h.out _ (by omega)).symm
 . refine zcF (g.chan k' hk').1 (fun i hi=>?_) (hg.pt k' hk' j hj)
   have h1:=ziY c hj
   have h2:=ziZ c k' j
   have h3:=zhF c k
   have e1:=zcd c k'
   have e2:=zcd c k
   by_cases e:k'=k
   . subst e;exact(h.out _ (by omega)).symm
   . have hr:=zmH c e
     exact(h.out _ (by omega)).symm
theorem zxn{f f':Nat->Int}(hg:zdt c f){k j:Nat}(hk:k<nC c)(hj:j<kD c k)(h:zpE (ptB (Ch c k)) (psC c k j) (prt (Ch c k)) f f'):zdt c f':=by
 have h1:=ziY c hj
 have h2:=ziZ c k j
 have e2:=zcd c k
 refine⟨h.u,fun k' hk'=>?_,fun k' hk' j' hj'=>?_⟩
 . refine zcL (g.chan k' hk').1 (fun i hi=>?_) (hg.st k' hk')
   have h3:=zhF c k'
   have e1:=zcd c k'
   by_cases e:k'=k
   . subst e;exact(h.out _ (by omega)).symm
   . have hr:=zmH c e
     exact(h.out _ (by omega)).symm
 . by_cases e:k'=k
   . subst e
     by_cases ej:j'=j
     . subst ej;exact h.ok
     . refine zcF (g.chan k' hk').1 (fun i hi=>?_) (hg.pt k' hk' j' hj')
       have:=zN8 c (k:=k') ej
       exact(h.out _ (by omega)).symm
   . refine zcF (g.chan k' hk').1 (fun i hi=>?_) (hg.pt k' hk' j' hj')
     have h3:=ziY c hj'
     have h4:=ziZ c k' j'
     have e1:=zcd c k'
     have hr:=zmH c e
     exact(h.out _ (by omega)).symm
end
theorem zoh(c:za)(q:Nat->Nat->Bool){p i:Nat} : ∀ n,p<n->i<zae c p->q p i=true->(⟨(p:Int),(i:Int)⟩:LayoutEnd) ∈ zdR c q n
 | 0,h,_,_=>absurd h (by omega)
 | n+1,h,hi,hq=>by
  rw[zdR,List.mem_append]
  by_cases e:p=n
  . right
    subst e
    unfold zdA
    exact List.mem_map.2 ⟨i,List.mem_filter.2 ⟨List.mem_range.2 hi,hq⟩,rfl⟩
  . exact .inl (zoh c q n (by omega) hi hq)
theorem ze5{c:za}{p q k:Nat}(hp:p<nP c)(hq:q<zae c p)(hc:(Pt c p q).channel=(k:Int))(hs:(Pt c p q).source=false) : ∃ j,j<kD c k/\z7 (dl c k) j=⟨(p:Int),(q:Int)⟩:=by
 have h:=zoh c (zaX c (k:Int)) (p:=p) (i:=q) (nP c) hp hq (by unfold zaX;rw[hc,hs];simp)
 obtain ⟨j,hj,e⟩:=List.getElem_of_mem h
 refine⟨j,hj,?_⟩
 rw[← e]
 show((zdR c (zaX c (k:Int)) (nP c))[j]?).getD default=_
 rw[List.getElem?_eq_getElem hj];rfl
def win(f:Nat->Int)(a n i:Nat):Int:=if i<n then f (a+i)else 0
theorem zdk{f:Nat->Int}{a n i:Nat}(h:i<n):win f a n i=f (a+i):=if_pos h
theorem zCe{f:Nat->Int}(hf:U32 f)(a n:Nat):U32 (win f a n):=fun i=>by
 unfold win
 split
 . exact hf _
 . omega
theorem zms(f:Nat->Int)(a n:Nat):over f a n (win f a n)=f:=funext fun i=>by
 unfold over
 split
 . rw[zdk (by omega),show a+(i-a)=i by omega]
 . rfl
section
variable {f g:Nat->Int} {W D:Nat}
theorem zrX{first i:Nat}{many:Int}(he : ∀ i,i<D*(1+W)->f i=g i)(hi:i<D)(hq:zfZ f W D first many=true):zhy f W D first i=zhy g W D first i:=by
 have h1:=Nat.mod_lt (first+i) (show D>0 by omega)
 have h2:((first+i) % D+1)*(1+W)<=D*(1+W):=Nat.mul_le_mul_right _ h1
 rw[Nat.add_mul,Nat.one_mul]at h2
 obtain ⟨⟨g1,_⟩,_⟩:=okQ_iff.1 (zlE hq hi)
 unfold zhy
 rw[← he ((first+i) % D*(1+W)) (by omega)]
 exact zbS fun j hj=>he _ (by omega)
theorem zmG{first many:Nat}(he : ∀ i,i<D*(1+W)->f i=g i)(hm:many<=D)(hq:zfZ f W D first (many:Int)=true):zh1 f W D first many=zh1 g W D first many:=
 List.map_congr_left fun i hi=>zrX he (by have:=List.mem_range.1 hi;omega) hq
theorem zpn(he : ∀ i,i<1+D*(1+W)->f i=g i)(hf:U32 f)(h:zho f W D=true):stM f W D=stM g W D:=by
 obtain ⟨h1,h2⟩:=qst_iff.1 h
 have h0:=hf 0
 unfold stM
 rw[← he 0 (by omega)]
 obtain ⟨n,hn⟩ : ∃ n:Nat,f 0=(n:Int):=⟨(f 0).toNat,by omega⟩
 rw[hn]at h1 h2 ⊢
 exact zmG (fun i hi=>he _ (by omega)) (by omega) h2
theorem zoJ(he : ∀ i,i<3+D*(1+W)->f i=g i)(hf:U32 f)(h:zeC f W D=true):ptM f W D=ptM g W D:=by
 obtain ⟨_,h1,_,h2⟩:=qpt_iff.1 h
 have h0:=hf 1
 unfold ptM
 rw[← he 0 (by omega),← he 1 (by omega)]
 obtain ⟨n,hn⟩ : ∃ n:Nat,f 1=(n:Int):=⟨(f 1).toNat,by omega⟩
 rw[hn]at h1 h2 ⊢
 exact zmG (fun i hi=>he _ (by omega)) (by omega) h2
theorem zl5{h:Nat}(h2:h=2 ∨ h=3)(he : ∀ i,i<h+W->f i=g i):zbk f h W=zbk g h W:=by
 have e1:((List.range (h+W)).any fun i=>!(f i==0))=((List.range (h+W)).any fun i=>!(g i==0)):=zhG fun i hi=>by rw[he i hi]
 have e2:zfb f h W=zfb g h W:=by
  unfold zfb zeo
  rw[he (h-1) (by omega),he 0 (by omega),he 1 (by omega)]
  congr 2
  exact congrArg _ (zhG fun i hi=>by rw[he _ (by omega)])
 unfold zbk
 rw[e1,e2]
 cases hb:zfb g h W with
 | false=>rfl
 | true=>
  rw[he (h-1) (by omega)]
  simp only[cnT]
  congr 1
  refine zbS fun i hi=>he _ ?_
  unfold zfb zeo at hb
  simp only[Bool.and_eq_true,decide_eq_true_eq]at hb
  omega
end
def cW(x:zI):Nat:=x.words.toNat
def cD(x:zI):Nat:=x.depth.toNat
def zdF(x:zI)(h:Nat->Int)(m:List Int):Bool × (Nat->Int):=
 if x.kind=2 then if(stM h (cW x) (cD x)).length=cD x then(false,h)else(true,zfM (cD x) (cW x) (stM h (cW x) (cD x)++[m]))
 else(true,zbJ 2 m.length (hd2 m.length) (zw m))
def zs6(x:zI)(h:Nat->Int):Bool × (Nat->Int):=
 if(ptM h (cW x) (cD x)).length=0 then(false,h)else(true,zgp (cD x) (cW x) (((h 0).toNat+1) % cD x) (h 2) ((ptM h (cW x) (cD x)).drop 1))
structure Run(B:(Nat->Int)->Bool)(n:Nat)(h:Nat->Int):Prop where
 u : ∀ i,i<n->0<=h i/\h i<4294967296
 ok:B h=true
theorem Run.write{B:(Nat->Int)->Bool}{n:Nat}{h:Nat->Int}(r:Run B n h)(hB : ∀ f g:Nat->Int,(∀ i,i<n->f i=g i)->B f=true->B g=true){f:Nat->Int}(hf:U32 f)(a:Nat):zpE B a n f (over f a n h):=
 ⟨zep hf r.u,hB _ _ (fun i hi=>(zg7 hi).symm) r.ok,fun i hi=>zaE hi⟩
section
variable {F:Nat} {f:Nat->Int} (hf:U32 f) (hF:F<=1024) {x:zI} (hx:zbZ x) {a:Nat}
include hf hF hx
theorem zDP(hs:stB x (fun i=>f (a+i))=true):stB x (win f a (stg x))=true:=zcL hx (fun i hi=>(zdk hi).symm) hs
theorem zvp(hs:ptB x (fun i=>f (a+i))=true):ptB x (win f a (prt x))=true:=zcF hx (fun i hi=>(zdk hi).symm) hs
theorem zrZ(h2:x.kind=2):x.words=(cW x:Int)/\x.depth=(cD x:Int)/\1<=cW x/\cW x<=16/\1<=cD x/\cD x<=8/\stg x=1+cD x*(1+cW x)/\prt x=3+cD x*(1+cW x)/\(∀ g,stB x g=zho g (cW x) (cD x))/\∀ g,ptB x g=zeC g (cW x) (cD x):=by
 obtain ⟨w1,w2⟩:=hx.words
 obtain ⟨d1,d2⟩:=hx.depth.1 h2
 exact⟨by unfold cW;omega,by unfold cD;omega,by unfold cW;omega,by unfold cW;omega,by unfold cD;omega,by unfold cD;omega,zv8 h2,zvo h2,fun g=>by unfold stB cW cD;rw[if_pos h2],fun g=>by unfold ptB cW cD;rw[if_pos h2]⟩
theorem zAO(h2:x.kind=1):x.words=(cW x:Int)/\1<=cW x/\cW x<=16/\stg x=2+cW x/\prt x=3+cW x/\(∀ g,stB x g=zbO g 2 (cW x))/\∀ g,ptB x g=zbO g 3 (cW x):=by
 obtain ⟨w1,w2⟩:=hx.words
 exact⟨by unfold cW;omega,by unfold cW;omega,by unfold cW;omega,zv7 h2,zvn h2,fun g=>by unfold stB cW;rw[if_neg (by omega)],fun g=>by unfold ptB cW;rw[if_neg (by omega)]⟩
theorem zDG(h2:x.kind=2)(ha:a+stg x<=16*F)(hs:stB x (fun i=>f (a+i))=true){m:List Int}(hm:zcp (cW x) m)(l:List Int) :
 zkm ⟨⟨(a:Int),x.words,l⟩,x.depth⟩ m (mk (16*F) f)=some ((zdF x (win f a (stg x)) m).1,0,⟨mk (16*F) (over f a (stg x) (zdF x (win f a (stg x)) m).2)⟩)/\Run (stB x) (stg x) (zdF x (win f a (stg x)) m).2:=by
 obtain ⟨hW,hD,w1,w2,d1,d2,eS,_,bS,_⟩:=zrZ hf hF hx h2
 have hs0:=zDP hf hF hx hs
 have hwu:=zCe hf a (stg x)
 have em:stM (fun i=>f (a+i)) (cW x) (cD x)=stM (win f a (stg x)) (cW x) (cD x):=zpn (fun i hi=>(zdk (by omega)).symm) (hf.sh a) (by rw[← bS];exact hs)
 rw[bS]at hs
 obtain ⟨s1,s2,_⟩:=zqT (hf.sh a) hs
 have q1':zkp (a:Int) (cW x:Int) (cD x:Int) m (mk (16*F) f)=some _:=zI7 hf (W:=cW x) (D:=cD x) (by omega) (by omega) (by omega) (by omega) (N:=16*F) (by omega) (by omega) hs hm
 unfold zkm zdF
 rw[if_pos h2]
 simp only[Tree.run,Option.bind_some,hW,hD,q1',cnT,id]
 rw[em]at s1 s2 ⊢
 by_cases c:(stM (win f a (stg x)) (cW x) (cD x)).length=cD x
 . rw[if_pos c,if_pos c]
   exact⟨by rw[zms],fun i _=>hwu i,hs0⟩
 . rw[if_neg c,if_neg c]
   have hms' : ∀ y ∈ stM (win f a (stg x)) (cW x) (cD x)++[m],zcp (cW x) y:=fun y hy=>by
    rcases List.mem_append.1 hy with h | h
    . exact s1 y h
    . rw[List.mem_singleton.1 h];exact hm
   have hl':(stM (win f a (stg x)) (cW x) (cD x)++[m]).length<=cD x:=by rw[List.length_append,List.length_singleton];omega
   exact⟨by rw[eS],fun i hi=>zs1 hms' hl' (by omega) (by omega) i,by rw[bS];exact zpo hms' hl'⟩
theorem zDH(h2:x.kind=1)(ha:a+stg x<=16*F)(hs:stB x (fun i=>f (a+i))=true){m:List Int}(hm:zcp (cW x) m)(l:List Int) :
 zks ⟨⟨(a:Int),x.words,l⟩⟩ m (mk (16*F) f)=some ((zdF x (win f a (stg x)) m).1,0,⟨mk (16*F) (over f a (stg x) (zdF x (win f a (stg x)) m).2)⟩)/\Run (stB x) (stg x) (zdF x (win f a (stg x)) m).2:=by
 obtain ⟨hW,w1,w2,eS,_,bS,_⟩:=zAO hf hF hx h2
 rw[bS]at hs
 obtain ⟨m1,m2,m3⟩:=hm
 have q1':=zJl hf hF (a:=a) (W:=cW x) (by omega) (by omega) (by omega) m1 m2 (zw m) hs
 rw[← zEY (l:=m) rfl]at q1'
 unfold zks zdF
 rw[if_neg (by omega)]
 simp only[Tree.run,Option.bind_some,hW,q1',cnT,id]
 have hu:U32 (zbJ 2 m.length (hd2 m.length) (zw m)):=fun i=>by
  unfold zbJ hd2
  split
  . split
    . omega
    . constructor <;> omega
  . split
    . exact m3 _
    . omega
 exact⟨by rw[eS];rfl,fun i _=>hu i,by rw[bS];exact zoR (.inl rfl) m1 m2 _ _ rfl (fun h=>absurd h (by decide)) rfl⟩
theorem zDX(h2:x.kind=2)(ha:a+prt x<=16*F)(hs:ptB x (fun i=>f (a+i))=true) :
 zib (a:Int) x.words x.depth (mk (16*F) f)=some ((zs6 x (win f a (prt x))).1,0,⟨mk (16*F) (over f a (prt x) (zs6 x (win f a (prt x))).2)⟩)/\Run (ptB x) (prt x) (zs6 x (win f a (prt x))).2:=by
 obtain ⟨hW,hD,w1,w2,d1,d2,_,eS,_,bS⟩:=zrZ hf hF hx h2
 have hs0:=zvp hf hF hx hs
 have hwu:=zCe hf a (prt x)
 have em:ptM (fun i=>f (a+i)) (cW x) (cD x)=ptM (win f a (prt x)) (cW x) (cD x):=zoJ (fun i hi=>(zdk (by omega)).symm) (hf.sh a) (by rw[← bS];exact hs)
 rw[bS]at hs
 obtain ⟨s1,s2,_⟩:=zmA (hf.sh a) hs
 rw[hW,hD,zDD hf (W:=cW x) (D:=cD x) (by omega) (by omega) (by omega) (by omega) (N:=16*F) (by omega) (by omega) hs]
 unfold zs6
 rw[em]at s1 s2 ⊢
 have e0:win f a (prt x) 0=f (a+0):=zdk (by omega)
 have e2:win f a (prt x) 2=f (a+2):=zdk (by omega)
 by_cases c:(ptM (win f a (prt x)) (cW x) (cD x)).length=0
 . rw[if_pos c,if_pos c]
   exact⟨by rw[zms],fun i _=>hwu i,hs0⟩
 . rw[if_neg c,if_neg c,e0,e2]
   have hms' : ∀ y ∈ (ptM (win f a (prt x)) (cW x) (cD x)).drop 1,zcp (cW x) y:=fun y hy=>s1 y (List.mem_of_mem_drop hy)
   have hl':((ptM (win f a (prt x)) (cW x) (cD x)).drop 1).length<=cD x:=by rw[List.length_drop];omega
   have hfi:((f (a+0)).toNat+1) % cD x<cD x:=Nat.mod_lt _ (by omega)
   exact⟨by rw[eS],fun i hi=>zvm hms' hl' hfi (by omega) (by omega) (hf _) i,by rw[bS];exact zr8 hms' hl' hfi⟩
theorem zDS(h2:x.kind=2)(l:List Int)(ha:a+stg x<=16*F)(hs:stB x (fun i=>f (a+i))=true) :
 zkn ⟨⟨(a:Int),x.words,l⟩,x.depth⟩ (mk (16*F) f)=some (((stM (win f a (stg x)) (cW x) (cD x)).length:Int),0,⟨mk (16*F) f⟩):=by
 obtain ⟨hW,hD,w1,w2,d1,d2,eS,_,bS,_⟩:=zrZ hf hF hx h2
 have em:stM (fun i=>f (a+i)) (cW x) (cD x)=stM (win f a (stg x)) (cW x) (cD x):=zpn (fun i hi=>(zdk (by omega)).symm) (hf.sh a) (by rw[← bS];exact hs)
 rw[bS]at hs
 have q1':zkq (a:Int) (cW x:Int) (cD x:Int) (mk (16*F) f)=some _:=zxI hf (W:=cW x) (D:=cD x) (by omega) (by omega) (by omega) (by omega) (N:=16*F) (by omega) (by omega) hs
 unfold zkn
 simp only[Tree.run,Option.bind_some,hW,hD,q1',cnT,id]
 rw[em]
end
def zdS(x:zI)(h:Nat->Int):List Int × Int × Bool:=
 if x.kind=2 then if(ptM h (cW x) (cD x)).length=0 then([],0,false)else(zW (ptM h (cW x) (cD x)) 0,(((ptM h (cW x) (cD x)).length-1:Nat):Int),true)
 else if(zbk h 3 (cW x)).length=0 then([],0,false)else(zbk h 3 (cW x),if h 1=1 then 1 else 0,true)
def zhO(x:zI)(h:Nat->Int):Int × Int:=
 if x.kind=2 then(((ptM h (cW x) (cD x)).length:Int),h 2)else(if(zbk h 3 (cW x)).length=0 then 0 else 1,if(zbk h 3 (cW x)).length=0 then 0 else if h 1=1 then 1 else 0)
section
variable {F:Nat} {f:Nat->Int} (hf:U32 f) (hF:F<=1024) {x:zI} (hx:zbZ x) {a:Nat}
include hf hF hx
theorem zva(h2:x.kind=2)(s:Int)(l:List Int)(ha:a+prt x<=16*F)(hs:ptB x (fun i=>f (a+i))=true) :
 zkl ⟨⟨s,x.words,l⟩,x.depth⟩ (a:Int) (mk (16*F) f)=some ((zdS x (win f a (prt x))).1,(zdS x (win f a (prt x))).2.1,(zdS x (win f a (prt x))).2.2,0,⟨mk (16*F) f⟩)/\
  zkk ⟨⟨s,x.words,l⟩,x.depth⟩ (a:Int) (mk (16*F) f)=some ((zhO x (win f a (prt x))).1,(zhO x (win f a (prt x))).2,0,⟨mk (16*F) f⟩):=by
 obtain ⟨hW,hD,w1,w2,d1,d2,_,eS,_,bS⟩:=zrZ hf hF hx h2
 have em:ptM (fun i=>f (a+i)) (cW x) (cD x)=ptM (win f a (prt x)) (cW x) (cD x):=zoJ (fun i hi=>(zdk (by omega)).symm) (hf.sh a) (by rw[← bS];exact hs)
 rw[bS]at hs
 have e2:win f a (prt x) 2=f (a+2):=zdk (by omega)
 obtain ⟨_,s2,_⟩:=zmA (hf.sh a) hs
 have q1':zko (a:Int) (cW x:Int) (cD x:Int) (mk (16*F) f)=some _:=zDC hf (W:=cW x) (D:=cD x) (by omega) (by omega) (by omega) (by omega) (N:=16*F) (by omega) (by omega) hs
 have c1':zie (a:Int) (cW x:Int) (cD x:Int) (mk (16*F) f)=some _:=zBg hf (W:=cW x) (D:=cD x) (by omega) (by omega) (by omega) (by omega) (N:=16*F) (by omega) (by omega) hs
 rw[em]at s2 q1' c1'
 unfold zdS zhO
 rw[if_pos h2,if_pos h2,e2]
 have hn : ∀ n:Nat,n<=8->u32.wrap (n:Int)=(n:Int):=fun n hn=>zbQ (by omega) (by omega)
 constructor
 . unfold zkl
   simp only[Tree.run0,Tree.run,Option.bind_some,hW,hD,q1',c1',cnT,id,beq_self_eq_true,Bool.not_true,cnF]
   by_cases c:(ptM (win f a (prt x)) (cW x) (cD x)).length=0
   . rw[if_pos c,decide_eq_false (show ¬ 1<=(ptM (win f a (prt x)) (cW x) (cD x)).length by omega)]
     rfl
   . rw[if_neg c,decide_eq_true (show 1<=(ptM (win f a (prt x)) (cW x) (cD x)).length by omega)]
     have e3:i64.wrap (((ptM (win f a (prt x)) (cW x) (cD x)).length:Int)-1)=(((ptM (win f a (prt x)) (cW x) (cD x)).length-1:Nat):Int):=zz _ _ (by omega) (by omega)
     simp only[Bool.not_true,cnF]
     rw[e3,hn _ (by omega)]
 . unfold zkk
   simp only[Tree.run0,Tree.run,Option.bind_some,hW,hD,c1',cnT,id]
   rw[hn _ (by omega)]
theorem zDT(h2:x.kind=1)(l:List Int)(ha:a+stg x<=16*F)(hs:stB x (fun i=>f (a+i))=true) :
 znj ⟨⟨(a:Int),x.words,l⟩⟩ (some ⟨mk (16*F) f⟩)=some (mn (zbk (win f a (stg x)) 2 (cW x)).length 1,0):=by
 obtain ⟨hW,w1,w2,eS,_,bS,_⟩:=zAO hf hF hx h2
 rw[bS]at hs
 have k1:=zjq hf (N:=16*F) (by omega) (h:=2) (.inl rfl) (W:=cW x) (by omega) (a:=a) (by omega)
 rw[hs,zl5 (.inl rfl) (g:=win f a (stg x)) fun i hi=>(zdk (by omega)).symm]at k1
 have k1':zcY (some ⟨mk (16*F) f⟩) (a:Int) (cW x:Int) 2=some (zbk (win f a (stg x)) 2 (cW x),0):=k1
 unfold znj zui
 simp only[Tree.run0,Tree.run,Option.bind_some,hW,zve hf _ (by omega) (by omega),beq_self_eq_true,Bool.not_true,cnF,k1']
theorem zvb(h2:x.kind=1)(s:Int)(l:List Int)(ha:a+prt x<=16*F)(hs:ptB x (fun i=>f (a+i))=true) :
 zgK ⟨⟨s,x.words,l⟩⟩ (some ⟨mk (16*F) f⟩) (a:Int)=some ((zdS x (win f a (prt x))).1,(zdS x (win f a (prt x))).2.1,(zdS x (win f a (prt x))).2.2,0)/\
  zni ⟨⟨s,x.words,l⟩⟩ (some ⟨mk (16*F) f⟩) (a:Int)=some ((zhO x (win f a (prt x))).1,(zhO x (win f a (prt x))).2,0):=by
 obtain ⟨hW,w1,w2,_,eS,_,bS⟩:=zAO hf hF hx h2
 have hk : ¬ x.kind=2:=by omega
 rw[bS]at hs
 have k1:=zjq hf (N:=16*F) (by omega) (h:=3) (.inr rfl) (W:=cW x) (by omega) (a:=a) (by omega)
 rw[hs,zl5 (.inr rfl) (g:=win f a (prt x)) fun i hi=>(zdk (by omega)).symm]at k1
 have k1':zcY (some ⟨mk (16*F) f⟩) (a:Int) (cW x:Int) 3=some (zbk (win f a (prt x)) 3 (cW x),0):=k1
 have e1:i64.wrap ((a:Int)+1)=((a+1:Nat):Int):=zi a (by omega)
 have r1':zey (some ⟨mk (16*F) f⟩) ((a+1:Nat):Int)=some (f (a+1),0):=zj6 (f:=f) (N:=16*F) (a:=a+1) (by omega) (by omega)
 have e2:win f a (prt x) 1=f (a+1):=zdk (by omega)
 have hL:zgK ⟨⟨s,(cW x:Int),l⟩⟩ (some ⟨mk (16*F) f⟩) (a:Int)=some ((zdS x (win f a (prt x))).1,(zdS x (win f a (prt x))).2.1,(zdS x (win f a (prt x))).2.2,0):=by
  unfold zgK zuh zdS zsg
  simp only[Tree.run0,Tree.run,Tree.val,Option.bind_some,hW,zve hf _ (by omega) (by omega),beq_self_eq_true,Bool.not_true,cnF,k1',e1,r1',e2]
  rw[if_neg hk]
  by_cases c:(zbk (win f a (prt x)) 3 (cW x)).length=0
  . rw[if_pos c,c];rfl
  . rw[if_neg c]
    have:(((zbk (win f a (prt x)) 3 (cW x)).length:Int)==0)=false:=nz c
    rw[this]
    simp only[cnF,Option.bind_some]
    by_cases c1:f (a+1)=1
    . rw[c1];rfl
    . have:(f (a+1)==1)=false:=by simpa using c1
      rw[this,if_neg c1];rfl
 refine⟨by rw[hW];exact hL,?_⟩
 have l1':zgK ⟨⟨s,(cW x:Int),l⟩⟩ (some ⟨mk (16*F) f⟩) (a:Int)=some _:=hL
 unfold zni zsg
 simp only[Tree.run0,Tree.run,Tree.val,Option.bind_some,hW,l1']
 unfold zdS zhO
 rw[if_neg hk,if_neg hk]
 by_cases c:(zbk (win f a (prt x)) 3 (cW x)).length=0
 . simp only[if_pos c];rfl
 . simp only[if_neg c];rfl
end
structure zq6(c:za)(D:zH):Prop where
 frames:D.c.frames=c.frames
 chans:D.c.channels=c.channels
 len:D.c.partitions.length=nP c
 ports : ∀ p,p<nP c->(zb D.c.partitions p).ports=(P c p).ports
 lay:D.lay=lay c
noncomputable def zQl(c:za)(k:Nat)(f:Nat->Int):Nat->Int:=zjs (Ch c k) (sAt c k) (kD c k) (psC c k) f
noncomputable def zbd(c:za)(f:Nat->Int):Nat->Nat->Int
 | 0=>f
 | k+1=>zQl c k (zbd c f k)
section
variable {c:za} (g:zaA c) (w:zeJ c) {D:zH} (hD:zq6 c D)
include g w hD
theorem ztS{k:Nat}(hk:k<nC c):zG D.lay.channels k=zxa c k/\D.lay.channels.length=nC c:=by
 rw[hD.lay]
 exact⟨zGC hk,by show(chL c (nC c)).length=_;simp[chL]⟩
theorem zjx{f:Nat->Int}(hf:U32 f):zld (some D) (some ⟨mk (nW c) f⟩)=some 0:=by
 have hF:=g.frames
 have k1':zdH (some ⟨mk (nW c) f⟩)=some ((c.frames.toNat:Nat):Int):=zfa hf c.frames.toNat (by omega)
 unfold zld
 have e:((c.frames.toNat:Nat):Int)=c.frames:=by omega
 simp only[Tree.run0,Tree.run,k1',Option.bind_some,Option.getD_some,Option.isNone_some,Option.isSome_some,hD.frames,e,cnT,cnF,beq_self_eq_true,Bool.not_true]
noncomputable def zbN(c:za)(p q:Int):Option zb9:=if 0<=p/\p<(nP c:Int)/\0<=q/\q<(zae c p.toNat:Int)then some (Pt c p.toNat q.toNat)else none
theorem zgZ(p q:Int):zhE (some D) p q=some (match zbN c p q with | some x=>(x,true) | none=>(⟨0,false⟩,false)):=by
 unfold zhE zbN
 simp only[Tree.run0,Tree.run,Option.getD_some,Option.isNone_some,Option.isSome_some,cnT,cnF,hD.len]
 by_cases c1:p<0
 . rw[decide_eq_true c1,cnT,if_neg (by omega)]
 . rw [decide_eq_false c1,cnF]
   obtain ⟨p',rfl⟩ : ∃ p':Nat,p=(p':Int):=⟨p.toNat,by omega⟩
   by_cases c2:(p':Int)>=(nP c:Int)
   . rw[decide_eq_true c2,cnT,if_neg (by omega)]
   . have hp:p'<nP c:=by omega
     rw[decide_eq_false c2,cnF]
     by_cases c3:q<0
     . rw[decide_eq_true c3,cnT,if_neg (by omega)]
     . rw[decide_eq_false c3,cnF,zn hp,cnT]
       obtain ⟨q',rfl⟩ : ∃ q':Nat,q=(q':Int):=⟨q.toNat,by omega⟩
       simp only[tnC,hD.ports p' hp]
       have hl:(P c p').ports.length=zae c p':=rfl
       by_cases c4:(q':Int)>=((P c p').ports.length:Int)
       . rw[decide_eq_true c4,cnT,if_neg (by omega)]
       . have hq:q'<(P c p').ports.length:=by omega
         rw[decide_eq_false c4,cnF,zn hq,cnT,if_pos (by omega)];rfl
theorem zbB{p q:Int}{x:zb9}(h:zbN c p q=some x) : ∃ p' q' k:Nat,p=(p':Int)/\q=(q':Int)/\p'<nP c/\q'<zae c p'/\x=Pt c p' q'/\x.channel=(k:Int)/\k<nC c:=by
 unfold zbN at h
 split at h
 . rename_i hc
   cases h
   have hp:p.toNat<nP c:=by omega
   have hq:q.toNat<zae c p.toNat:=by omega
   have h:=g.port p.toNat q.toNat hp hq
   refine⟨p.toNat,q.toNat,(Pt c p.toNat q.toNat).channel.toNat,by omega,by omega,hp,hq,rfl,by omega,?_⟩
   have:(nC c:Int)=c.channels.length:=rfl
   omega
 . cases h
theorem zpY{k:Nat}(hk:k<nC c):(zxa c k).dests.length=kD c k/\∀ j,j<kD c k->zcC (zxa c k).dests j=⟨(z7 (dl c k) j).partition,(z7 (dl c k) j).port,(psC c k j:Int)⟩:=⟨zga _ _ _,fun j hj=>zkL _ _ _ _ hj⟩
noncomputable def rowOf(c:za)(k:Nat):zbw:=⟨⟨(sAt c k:Int),(Ch c k).words,mk (kD c k) fun j=>(psC c k j:Int)⟩,(Ch c k).depth⟩
noncomputable def zhV(c:za)(k:Nat):zbb:=⟨⟨(sAt c k:Int),(Ch c k).words,mk (kD c k) fun j=>(psC c k j:Int)⟩⟩
theorem zf6{k:Nat}(hk:k<nC c):zjn (some D) (k:Int)=if(Ch c k).kind=2 then some (rowOf c k)else none:=by
 obtain ⟨l1,l2⟩:=ztS g w hD hk
 obtain ⟨d1,d2⟩:=zpY g w hD hk
 obtain ⟨n1,n2⟩:=zu7 g w hk
 have hl:=zK (n:=kD c k) (f:=fun i (xs:List Int)=>zsv (some D) (k:Int) (.l0 (i:Int) xs)) (S:=fun i=>mk i fun j=>(psC c k j:Int)) (fun i hi=>by
  rw[zsw]
  simp only[zuK,Option.getD_some,tnC,l1,d1,zY hi,cnT,zn hi,d2 i hi,zP,List.length_singleton,za0 (show(i+1)*8<=140737488355328 by omega),zi i (show i<4611686018427387904 by omega),Tree.run]
  rw[zvg i fun j=>(psC c k j:Int)])
 unfold zjn zEB
 simp only[Tree.run,Option.getD_some,Option.isSome_some,cnT,hD.chans,l2,zn (show k<c.channels.length from hk),zn hk]
 refine(show zsv (some D) (k:Int) (.l0 0 [])=_ from hl).trans ?_
 rw[zsw]
 simp only[zuK,Option.getD_some,tnC,l1,d1,z9 (Nat.le_refl _),cnF,hD.chans,Tree.run]
 by_cases h2:(Ch c k).kind=2
 . rw[if_pos h2,show(zu c.channels k).kind=2 from h2];rfl
 . rw[if_neg h2]
   have h3 : ¬ (zu c.channels k).kind=2:=h2
   have:((zu c.channels k).kind==2)=false:=by simpa using h3
   rw[this];rfl
theorem zjK{k:Nat}(hk:k<nC c)(h2:(Ch c k).kind=1):zcj (some D) (k:Int)=some (zhV c k):=by
 obtain ⟨l1,l2⟩:=ztS g w hD hk
 obtain ⟨d1,d2⟩:=zpY g w hD hk
 obtain ⟨n1,n2⟩:=zu7 g w hk
 have e2:(zu c.channels k).kind=1:=h2
 have hl:=zK (n:=kD c k) (f:=fun i (xs:List Int)=>zfe (some D) (k:Int) (.l0 (i:Int) xs)) (S:=fun i=>mk i fun j=>(psC c k j:Int)) (fun i hi=>by
  rw[zi3]
  simp only[zgX,Option.getD_some,tnC,l1,d1,zY hi,cnT,zn hi,d2 i hi,zP,List.length_singleton,za0 (show(i+1)*8<=140737488355328 by omega),zi i (show i<4611686018427387904 by omega),Tree.run]
  rw[zvg i fun j=>(psC c k j:Int)])
 unfold zcj zok
 simp only[Tree.run,Option.getD_some,Option.isSome_some,cnT,hD.chans,l2,zn (show k<c.channels.length from hk),zn hk]
 refine(show zfe (some D) (k:Int) (.l0 0 [])=_ from hl).trans ?_
 rw[zi3]
 simp only[zgX,Option.getD_some,tnC,l1,d1,z9 (Nat.le_refl _),cnF,hD.chans,e2,show((1:Int)==2)=false from rfl,Tree.run]
 rfl
noncomputable def zdz(c:za)(k:Nat)(p q:Int):Nat:=(dl c k).findIdx fun e=>e==⟨p,q⟩
theorem zw5{p q k:Nat}(hk:k<nC c)(h : ∃ j,j<kD c k/\z7 (dl c k) j=⟨(p:Int),(q:Int)⟩):zdz c k p q<kD c k/\z7 (dl c k) (zdz c k p q)=⟨(p:Int),(q:Int)⟩/\zgF (some D) (p:Int) (q:Int) (k:Int)=some (psC c k (zdz c k p q):Int):=by
 obtain ⟨l1,l2⟩:=ztS g w hD hk
 obtain ⟨d1,d2⟩:=zpY g w hD hk
 obtain ⟨n1,n2⟩:=zu7 g w hk
 have hget : ∀ j,j<kD c k->∀ h',(dl c k)[j]'h'=z7 (dl c k) j:=fun j hj h'=>by
  show _=((dl c k)[j]?).getD default
  rw[List.getElem?_eq_getElem h'];rfl
 have hlt:zdz c k p q<(dl c k).length:=by
  obtain ⟨j,h1,h2⟩:=h
  have h1':j<(dl c k).length:=h1
  refine List.findIdx_lt_length_of_exists ⟨(dl c k)[j],List.getElem_mem _,?_⟩
  rw[hget j h1 h1',h2];simp
 have hat:z7 (dl c k) (zdz c k p q)=⟨(p:Int),(q:Int)⟩:=by
  have:=List.findIdx_getElem (w:=hlt)
  exact(hget _ hlt hlt).symm.trans (eq_of_beq this)
 refine⟨hlt,hat,?_⟩
 have key : ∀ r i,i+r=zdz c k p q->zh7 (some D) (p:Int) (q:Int) (k:Int) (.l0 (i:Int))=some (psC c k (zdz c k p q):Int):=by
  have step : ∀ i,i<kD c k->zh7 (some D) (p:Int) (q:Int) (k:Int) (.l0 (i:Int))=cond ((z7 (dl c k) i).partition==(p:Int)) (cond ((z7 (dl c k) i).port==(q:Int)) (some (psC c k i:Int)) (zh7 (some D) (p:Int) (q:Int) (k:Int) (.l0 ((i+1:Nat):Int)))) (zh7 (some D) (p:Int) (q:Int) (k:Int) (.l0 ((i+1:Nat):Int))):=fun i hik=>by
   rw[zxY]
   simp only[ztp,Option.getD_some,tnC,l1,d1,zY hik,cnT,zn hik,d2 i hik,zi i (show i<4611686018427387904 by omega),Tree.run]
  intro r
  induction r with
  | zero=>
   intro i hi
   obtain rfl:i=zdz c k p q:=by omega
   rw[step _ hlt,hat];simp
  | succ r ih=>
   intro i hi
   have hik:i<kD c k:=by have:kD c k=(dl c k).length:=rfl;omega
   have hne : ¬ z7 (dl c k) i=⟨(p:Int),(q:Int)⟩:=fun e=>by
    have:=List.not_of_lt_findIdx (p:=fun e:LayoutEnd=>e==⟨(p:Int),(q:Int)⟩) (xs:=dl c k) (i:=i) (show i<zdz c k p q by omega)
    have e':(dl c k)[i]'(Nat.lt_trans (show i<zdz c k p q by omega) hlt)=⟨(p:Int),(q:Int)⟩:=(hget i hik _).trans e
    rw[e']at this
    simp at this
   rw[step i hik]
   have a3:=ih (i+1) (by omega)
   rw[a3]
   cases b1:(z7 (dl c k) i).partition==(p:Int)with
   | false=>rfl
   | true=>
    cases b2:(z7 (dl c k) i).port==(q:Int)with
    | false=>rfl
    | true=>exact absurd (LayoutEnd.ext (eq_of_beq b1) (eq_of_beq b2)) hne
 unfold zgF zzI
 simp only[Tree.run,Option.getD_some,Option.isSome_some,cnT,l2,zn hk]
 exact key (zdz c k p q) 0 (Nat.zero_add _)
end
theorem zhA{R α:Type}(x:R)(k:R->Option α)(z:Option α):orB (some x) k z=k x:=rfl
theorem zgo{R α:Type}(k:R->Option α)(z:Option α):orB none k z=z:=rfl
noncomputable def stW(c:za)(f:Nat->Int)(k:Nat):Nat->Int:=win f (sAt c k) (stg (Ch c k))
noncomputable def ptW(c:za)(f:Nat->Int)(k j:Nat):Nat->Int:=win f (psC c k j) (prt (Ch c k))
noncomputable def zcV(c:za)(p q:Int):Int × Int:=match zbN c p q with
 | none=>(0,1)
 | some x=>cond x.source ((Ch c x.channel.toNat).words,0) (0,2)
noncomputable def zBy(c:za)(k:Nat)(m:List Int)(f:Nat->Int):Int × (Nat->Int):=
 (cond (zdF (Ch c k) (stW c f k) m).1 0 5,over f (sAt c k) (stg (Ch c k)) (zdF (Ch c k) (stW c f k) m).2)
noncomputable def zlo(c:za)(p q:Int)(m:List Int)(f:Nat->Int):Int × (Nat->Int):=match zbN c p q with
 | none=>(1,f)
 | some x=>cond x.source (if m.length=0 ∨ (m.length:Int)>(Ch c x.channel.toNat).words then(3,f)else zBy c x.channel.toNat m f) (2,f)
noncomputable def zig(c:za)(p q:Int)(f:Nat->Int):Nat->Int:=match zbN c p q with
 | none=>f
 | some x=>cond x.source f (if(Ch c x.channel.toNat).kind=2 then over f (psC c x.channel.toNat (zdz c x.channel.toNat p q)) (prt (Ch c x.channel.toNat)) (zs6 (Ch c x.channel.toNat) (ptW c f x.channel.toNat (zdz c x.channel.toNat p q))).2 else f)
noncomputable def zde(c:za)(p q:Int)(f:Nat->Int):Int × List Int × Int:=match zbN c p q with
 | none=>(1,[],0)
 | some x=>cond x.source (2,[],0) (let r:=zdS (Ch c x.channel.toNat) (ptW c f x.channel.toNat (zdz c x.channel.toNat p q));cond r.2.2 (0,r.1,r.2.1) (6,[],0))
noncomputable def zv6(c:za)(k:Nat)(f:Nat->Int):Int:=if(Ch c k).kind=2 then((stM (stW c f k) (cW (Ch c k)) (cD (Ch c k))).length:Int)else mn (zbk (stW c f k) 2 (cW (Ch c k))).length 1
noncomputable def zkv(c:za)(p q:Int)(f:Nat->Int):Int × Int × Int:=match zbN c p q with
 | none=>(1,0,0)
 | some x=>cond x.source (0,u32.wrap (zv6 c x.channel.toNat f),0) (let r:=zhO (Ch c x.channel.toNat) (ptW c f x.channel.toNat (zdz c x.channel.toNat p q));(0,r.1,r.2))
section
variable {c:za} (g:zaA c) (w:zeJ c) {D:zH} (hD:zq6 c D)
include g w hD
theorem zBt(p q:Int):zpl (some D) p q=some (zcV c p q):=by
 unfold zpl zcV
 simp only[Tree.run0,Tree.run,zgZ g w hD,Option.bind_some,Option.isNone_some,cnF]
 cases hp:zbN c p q with
 | none=>rfl
 | some x=>
  obtain ⟨p',q',k,_,_,_,_,_,hk1,hk⟩:=zbB g w hD hp
  cases hs:x.source with
  | false=>simp only[Bool.not_true,cnF,hs,Bool.not_false,cnT]
  | true=>
   simp only[Bool.not_true,cnF,hs,Option.isSome_some,cnT,Option.getD_some,hD.chans,hk1,zn (show k<c.channels.length from hk),tnC]
   rfl
variable {f:Nat->Int} (hg:zdt c f)
include hg
theorem zwi:c.frames.toNat<=1024:=by have:=g.frames;omega
theorem zv2{k:Nat}(hk:k<nC c):sAt c k+stg (Ch c k)<=nW c:=(zfu g w hk).stage
theorem zoK{k j:Nat}(hk:k<nC c)(hj:j<kD c k):psC c k j+prt (Ch c k)<=nW c:=(zfu g w hk).port j hj
theorem zBx(p q:Int){m:List Int}(hm : ∀ j,0<=zw m j/\zw m j<4294967296):zm2 (some D) p q m (mk (nW c) f)=some ((zlo c p q m f).1,0,⟨mk (nW c) (zlo c p q m f).2⟩)/\zdt c (zlo c p q m f).2:=by
 have hF:=zwi g w hD hg
 unfold zm2 zlo
 simp only[Tree.run0,Tree.run,zjx g w hD hg.u,zBt g w hD,zgZ g w hD,Option.bind_some,beq_self_eq_true,Bool.not_true,cnF]
 unfold zcV
 cases hp:zbN c p q with
 | none=>exact⟨rfl,hg⟩
 | some x=>
  obtain ⟨p',q',k,rfl,rfl,hp',hq',rfl,hk1,hk⟩:=zbB g w hD hp
  cases hs:(Pt c p' q').source with
  | false=>simp only[hs,cnF];exact⟨rfl,hg⟩
  | true =>
   simp only[hs,cnT,beq_self_eq_true,Bool.not_true,cnF,hk1,tnC,zf6 g w hD hk]
   by_cases c1:m.length=0
   . have:((m.length:Int)==0)=true:=by rw[c1];rfl
     rw[this,if_pos (show m.length=0 ∨ (m.length:Int)>(Ch c k).words from .inl c1)]
     exact⟨rfl,hg⟩
   . rw [nz c1,cnF]
     by_cases c2:(m.length:Int)>(Ch c k).words
     . rw[decide_eq_true c2,if_pos (show m.length=0 ∨ (m.length:Int)>(Ch c k).words from .inr c2)]
       exact⟨rfl,hg⟩
     . rw[decide_eq_false c2,cnF,if_neg (show ¬ (m.length=0 ∨ (m.length:Int)>(Ch c k).words)from fun h=>h.elim c1 c2)]
       have hx:=(g.chan k hk).1
       have hmo:zcp (cW (Ch c k)) m:=⟨by omega,by have:=hx.words;unfold cW;omega,hm⟩
       rcases hx.kind with h1 | h2
       . obtain ⟨s1,s2⟩:=zDH hg.u hF hx h1 (zv2 g w hD hg hk) (hg.st k hk) hmo (mk (kD c k) fun j=>(psC c k j:Int))
         have s1':zks (zhV c k) m (mk (nW c) f)=_:=s1
         rw[if_neg (by omega)]
         simp only[zgo,zjK g w hD hk h1,Option.bind_some,s1',beq_self_eq_true,cnT]
         refine⟨?_,zos g hg hk (s2.write (fun f g e h=>zcL hx e h) hg.u _)⟩
         unfold zBy stW
         cases (zdF (Ch c k) (win f (sAt c k) (stg (Ch c k))) m).1 <;> rfl
       . obtain ⟨s1,s2⟩:=zDG hg.u hF hx h2 (zv2 g w hD hg hk) (hg.st k hk) hmo (mk (kD c k) fun j=>(psC c k j:Int))
         have s1':zkm (rowOf c k) m (mk (nW c) f)=_:=s1
         rw[if_pos h2]
         simp only[zhA,Option.bind_some,s1',beq_self_eq_true,cnT]
         refine⟨?_,zos g hg hk (s2.write (fun f g e h=>zcL hx e h) hg.u _)⟩
         unfold zBy stW
         cases (zdF (Ch c k) (win f (sAt c k) (stg (Ch c k))) m).1 <;> rfl
theorem zCb(p q:Int):zm4 (some D) p q (mk (nW c) f)=some (0,⟨mk (nW c) (zig c p q f)⟩)/\zdt c (zig c p q f):=by
 have hF:=zwi g w hD hg
 unfold zm4 zig
 simp only[Tree.run0,Tree.run,zjx g w hD hg.u,zgZ g w hD,Option.bind_some,beq_self_eq_true,Bool.not_true,cnF]
 cases hp:zbN c p q with
 | none=>exact⟨rfl,hg⟩
 | some x=>
  obtain ⟨p',q',k,rfl,rfl,hp',hq',rfl,hk1,hk⟩:=zbB g w hD hp
  cases hs:(Pt c p' q').source with
  | true=>simp only[hs,cnT];exact⟨rfl,hg⟩
  | false=>
   simp only[hs,Bool.not_true,cnF,hk1,tnC,zf6 g w hD hk]
   have hx:=(g.chan k hk).1
   obtain ⟨b1,b2,b3⟩:=zw5 g w hD hk (ze5 hp' hq' hk1 hs)
   rcases hx.kind with h1 | h2
   . rw[if_neg (by omega),if_neg (by omega)]
     simp only[zgo,zjK g w hD hk h1,Option.bind_some]
     exact⟨trivial,hg⟩
   . obtain ⟨s1,s2⟩:=zDX hg.u hF hx h2 (zoK g w hD hg hk b1) (hg.pt k hk _ b1)
     have s1':zib (psC c k (zdz c k (p':Int) (q':Int)):Int) (Ch c k).words (Ch c k).depth (mk (nW c) f)=_:=s1
     rw[if_pos h2,if_pos h2]
     simp only[zhA,Option.bind_some,b3,rowOf,s1']
     exact⟨rfl,zxn g hg hk b1 (s2.write (fun f g e h=>zcF hx e h) hg.u _)⟩
theorem zHj(p q:Int):zm3 (some D) p q (mk (nW c) f)=some ((zde c p q f).1,(zde c p q f).2.1,(zde c p q f).2.2,0,⟨mk (nW c) f⟩):=by
 have hF:=zwi g w hD hg
 unfold zm3 zde
 simp only[Tree.run0,Tree.run,zjx g w hD hg.u,zgZ g w hD,Option.bind_some,beq_self_eq_true,Bool.not_true,cnF]
 cases hp:zbN c p q with
 | none=>rfl
 | some x=>
  obtain ⟨p',q',k,rfl,rfl,hp',hq',rfl,hk1,hk⟩:=zbB g w hD hp
  cases hs:(Pt c p' q').source with
  | true=>simp only[hs,cnT];rfl
  | false=>
   simp only[hs,Bool.not_true,cnF,hk1,tnC,zf6 g w hD hk]
   have hx:=(g.chan k hk).1
   obtain ⟨b1,b2,b3⟩:=zw5 g w hD hk (ze5 hp' hq' hk1 hs)
   unfold ptW
   rcases hx.kind with h1 | h2
   . obtain ⟨s1,_⟩:=zvb hg.u hF hx h1 (sAt c k:Int) (mk (kD c k) fun j=>(psC c k j:Int)) (zoK g w hD hg hk b1) (hg.pt k hk _ b1)
     have s1':zgK (zhV c k) (some ⟨mk (nW c) f⟩) (psC c k (zdz c k (p':Int) (q':Int)):Int)=_:=s1
     rw[if_neg (by omega)]
     simp only[zgo,zjK g w hD hk h1,Option.bind_some,b3,s1',beq_self_eq_true,Bool.not_true,cnF]
     cases (zdS (Ch c k) (win f (psC c k (zdz c k (p':Int) (q':Int))) (prt (Ch c k)))).2.2 <;> rfl
   . obtain ⟨s1,_⟩:=zva hg.u hF hx h2 (sAt c k:Int) (mk (kD c k) fun j=>(psC c k j:Int)) (zoK g w hD hg hk b1) (hg.pt k hk _ b1)
     have s1':zkl (rowOf c k) (psC c k (zdz c k (p':Int) (q':Int)):Int) (mk (nW c) f)=_:=s1
     rw[if_pos h2]
     simp only[zhA,Option.bind_some,b3,s1',beq_self_eq_true,Bool.not_true,cnF]
     cases (zdS (Ch c k) (win f (psC c k (zdz c k (p':Int) (q':Int))) (prt (Ch c k)))).2.2 <;> rfl
theorem zBV(p q:Int):zm5 (some D) p q (mk (nW c) f)=some ((zkv c p q f).1,(zkv c p q f).2.1,(zkv c p q f).2.2,0,⟨mk (nW c) f⟩):=by
 have hF:=zwi g w hD hg
 unfold zm5 zkv
 simp only[Tree.run0,Tree.run,zjx g w hD hg.u,zgZ g w hD,Option.bind_some,beq_self_eq_true,Bool.not_true,cnF]
 cases hp:zbN c p q with
 | none=>rfl
 | some x=>
  obtain ⟨p',q',k,rfl,rfl,hp',hq',rfl,hk1,hk⟩:=zbB g w hD hp
  simp only[Bool.not_true,cnF,hk1,tnC,zf6 g w hD hk]
  have hx:=(g.chan k hk).1
  unfold zv6 ptW stW
  rcases hx.kind with h1 | h2
  . rw[if_neg (by omega),if_neg (by omega)]
    simp only[zgo,zjK g w hD hk h1,Option.bind_some]
    cases hs:(Pt c p' q').source with
    | true=>
     have s1':znj (zhV c k) (some ⟨mk (nW c) f⟩)=_:=zDT hg.u hF hx h1 (mk (kD c k) fun j=>(psC c k j:Int)) (zv2 g w hD hg hk) (hg.st k hk)
     simp only[cnT,s1',Option.bind_some]
    | false=>
     obtain ⟨b1,b2,b3⟩:=zw5 g w hD hk (ze5 hp' hq' hk1 hs)
     obtain ⟨_,s1⟩:=zvb hg.u hF hx h1 (sAt c k:Int) (mk (kD c k) fun j=>(psC c k j:Int)) (zoK g w hD hg hk b1) (hg.pt k hk _ b1)
     have s1':zni (zhV c k) (some ⟨mk (nW c) f⟩) (psC c k (zdz c k (p':Int) (q':Int)):Int)=_:=s1
     simp only[cnF,b3,s1',Option.bind_some,beq_self_eq_true,Bool.not_true]
  . rw[if_pos h2,if_pos h2]
    simp only[zhA,Option.bind_some]
    cases hs:(Pt c p' q').source with
    | true=>
     have s1':zkn (rowOf c k) (mk (nW c) f)=_:=zDS hg.u hF hx h2 (mk (kD c k) fun j=>(psC c k j:Int)) (zv2 g w hD hg hk) (hg.st k hk)
     simp only[cnT,s1',Option.bind_some]
     rfl
    | false=>
     obtain ⟨b1,b2,b3⟩:=zw5 g w hD hk (ze5 hp' hq' hk1 hs)
     obtain ⟨_,s1⟩:=zva hg.u hF hx h2 (sAt c k:Int) (mk (kD c k) fun j=>(psC c k j:Int)) (zoK g w hD hg hk b1) (hg.pt k hk _ b1)
     have s1':zkk (rowOf c k) (psC c k (zdz c k (p':Int) (q':Int)):Int) (mk (nW c) f)=_:=s1
     simp only[cnF,b3,s1',Option.bind_some,beq_self_eq_true,Bool.not_true]
     rfl
end
theorem zlu{l:List Int}(h:l.length*4<=140737488355328):zgL l=some l:=by
 unfold zgL
 rw[za0 h];rfl
section
variable {c:za} (g:zaA c) (w:zeJ c) {D:zH} (hD:zq6 c D) {f:Nat->Int} (hg:zdt c f)
include g w hD hg
theorem zhm : ∀ k,k<=nC c->zdt c (zbd c f k)/\(k<nC c->zlL (Ch c k) (sAt c k) (kD c k) (psC c k) (zbd c f k) (zbd c f (k+1))/\((Ch c k).kind=2->zeW ⟨⟨(sAt c k:Int),(Ch c k).words,mk (kD c k) fun j=>(psC c k j:Int)⟩,(Ch c k).depth⟩ (mk (nW c) (zbd c f k))=some (0,⟨mk (nW c) (zbd c f (k+1))⟩))/\((Ch c k).kind=1->zeX ⟨⟨(sAt c k:Int),(Ch c k).words,mk (kD c k) fun j=>(psC c k j:Int)⟩⟩ (mk (nW c) (zbd c f k))=some (0,⟨mk (nW c) (zbd c f (k+1))⟩))):=by
 have hF:=zwi g w hD hg
 have one : ∀ k,zdt c (zbd c f k)->k<nC c->zlL (Ch c k) (sAt c k) (kD c k) (psC c k) (zbd c f k) (zbd c f (k+1))/\((Ch c k).kind=2->zeW ⟨⟨(sAt c k:Int),(Ch c k).words,mk (kD c k) fun j=>(psC c k j:Int)⟩,(Ch c k).depth⟩ (mk (nW c) (zbd c f k))=some (0,⟨mk (nW c) (zbd c f (k+1))⟩))/\((Ch c k).kind=1->zeX ⟨⟨(sAt c k:Int),(Ch c k).words,mk (kD c k) fun j=>(psC c k j:Int)⟩⟩ (mk (nW c) (zbd c f k))=some (0,⟨mk (nW c) (zbd c f (k+1))⟩)):=fun k hgk hk=>by
  have hx:=(g.chan k hk).1
  obtain ⟨n1,n2⟩:=zu7 g w hk
  rcases hx.kind with h1 | h2
  . obtain ⟨t1,t2⟩:=zJs hgk.u hF hx n1 n2 (zfu g w hk) (hgk.st k hk) (hgk.pt k hk) h1
    exact⟨t2,fun h=>by omega,fun _=>t1⟩
  . obtain ⟨t1,t2⟩:=zJr hgk.u hF hx n1 n2 (zfu g w hk) (hgk.st k hk) (hgk.pt k hk) h2
    exact⟨t2,fun _=>t1,fun h=>by omega⟩
 intro k
 induction k with
 | zero=>exact fun _=>⟨hg,one 0 hg⟩
 | succ k ih=>
  intro hk
  obtain ⟨i1,i2⟩:=ih (by omega)
  have i3:=zxo g i1 (show k<nC c by omega) (i2 (by omega)).1
  exact⟨i3,one (k+1) i3⟩
theorem zuo{a:Nat}(h1 : ∀ k,¬ zCA c k a)(h2 : ∀ k j,¬ zCz c k j a) : ∀ k,k<=nC c->zbd c f k a=f a:=by
 intro k
 induction k with
 | zero=>exact fun _=>rfl
 | succ k ih=>
  intro hk
  obtain ⟨_,i2⟩:=zhm g w hD hg k (by omega)
  rw[(i2 (by omega)).1.out a (fun h=>h1 k ⟨by omega,h⟩) fun j hj h=>h2 k j ⟨by omega,hj,h⟩]
  exact ih (by omega)
theorem zJt:zsM (some D) (mk (nW c) f)=some (0,⟨mk (nW c) (zbd c f (nC c))⟩):=by
 have hF:=g.frames
 have hlen:c.channels.length=nC c:=rfl
 have hN:16<=nW c/\nW c<=16384:=by unfold nW;omega
 have hC:zgL (mk (nW c) f)=some (mk (nW c) f):=zlu (by rw[zP];omega)
 have hCl:zvR (some ⟨mk (nW c) f⟩)=some ⟨mk (nW c) f⟩:=by
  unfold zvR
  simp only[Tree.run0,Tree.run,Option.bind_some,Option.getD_some,Option.isNone_some,Option.isSome_some,cnT,cnF,hC]
 have l0:=zK (n:=nC c) (f:=fun i (xs:List Int)=>zmX (some D) (mk (nW c) f) (.l0 (i:Int) xs)) (S:=fun i=>mk (nW c) (zbd c f i)) (fun k hk=>by
  obtain ⟨_,t0⟩:=zhm g w hD hg k (by omega)
  obtain ⟨_,t2,t1⟩:=t0 hk
  rw[zi8]
  rcases (g.chan k hk).1.kind with h1 | h2
  . have s1':zeX (zhV c k) (mk (nW c) (zbd c f k))=some _:=t1 h1
    simp only[zkB,Option.getD_some,hD.chans,hlen,zY hk,cnT,zf6 g w hD hk,if_neg (show ¬ (Ch c k).kind=2 by omega),zgo,zjK g w hD hk h1,cnF,s1',beq_self_eq_true,Bool.not_true,zi k (show k<4611686018427387904 by have:=g.chans;omega),Tree.run,Option.bind_some]
  . have s1':zeW (rowOf c k) (mk (nW c) (zbd c f k))=some _:=t2 h2
    simp only[zkB,Option.getD_some,hD.chans,hlen,zY hk,cnT,zf6 g w hD hk,if_pos h2,zhA,cnF,s1',beq_self_eq_true,Bool.not_true,zi k (show k<4611686018427387904 by have:=g.chans;omega),Tree.run,Option.bind_some])
 have l4:=zK (n:=nC c) (f:=fun i (xs:List Int)=>zmX (some D) (mk (nW c) f) (.l4 (i:Int) xs)) (S:=fun i=>mk (nW c) (zbd c f i)) (fun k hk=>by
  obtain ⟨_,t0⟩:=zhm g w hD hg k (by omega)
  obtain ⟨_,t2,t1⟩:=t0 hk
  rw[zi8]
  rcases (g.chan k hk).1.kind with h1 | h2
  . have s1':zeX (zhV c k) (mk (nW c) (zbd c f k))=some _:=t1 h1
    simp only[zkB,Option.getD_some,hD.chans,hlen,zY hk,cnT,zf6 g w hD hk,if_neg (show ¬ (Ch c k).kind=2 by omega),zgo,zjK g w hD hk h1,cnF,s1',zi k (show k<4611686018427387904 by have:=g.chans;omega),Tree.run,Option.bind_some]
  . have s1':zeW (rowOf c k) (mk (nW c) (zbd c f k))=some _:=t2 h2
    simp only[zkB,Option.getD_some,hD.chans,hlen,zY hk,cnT,zf6 g w hD hk,if_pos h2,zhA,cnF,s1',zi k (show k<4611686018427387904 by have:=g.chans;omega),Tree.run,Option.bind_some])
 unfold zsM zEn
 simp only[Tree.run,Option.bind_some,zjx g w hD hg.u,cnT,beq_self_eq_true,Bool.not_true,cnF,hCl,Option.isSome_some]
 refine(show zmX (some D) (mk (nW c) f) (.l0 0 (mk (nW c) f))=_ from l0).trans ?_
 rw[zi8]
 simp only[zkB,Option.getD_some,hD.chans,hlen,z9 (Nat.le_refl _),cnF,Option.isSome_some,cnT,Tree.run,Option.bind_some]
 refine(show zmX (some D) (mk (nW c) f) (.l4 0 (mk (nW c) f))=_ from l4).trans ?_
 rw[zi8]
 simp only[zkB,Option.getD_some,hD.chans,hlen,z9 (Nat.le_refl _),cnF,Tree.run]
end
structure zcM(x:zf):Prop where
 few:x.regions.length<=8
 page : ∀ i,i<x.regions.length->0<=(zh x.regions i).page/\(zh x.regions i).page<=255/\1<=(zh x.regions i).pages/\(zh x.regions i).page+(zh x.regions i).pages<=256
 frame : ∀ i,i<x.regions.length->0<=(zh x.regions i).frame/\(zh x.regions i).frame+(zh x.regions i).pages<=1024
theorem zcG{c:za}(g:zaA c){p:Nat}(hp:p<nP c):zcM (P c p):=by
 have hf:=g.frames
 refine⟨(g.nregs p hp).2,fun i hi=>?_,fun i hi=>?_⟩
 . have h:=(g.regs p i hp hi).ok
   obtain ⟨a1,a2⟩:=h.page
   obtain ⟨a3,a4⟩:=h.pages
   unfold Rg at a1 a2 a3 a4
   omega
 . have h:=g.regs p i hp hi
   have h1:=h.frame
   have h2:=h.fits
   unfold Rg at h1 h2
   omega
theorem zh0{c:za}(g:zaA c){p:Nat}(hp:p<nP c)(i:Nat)(hi:i<(P c p).regions.length):0<=(zh (P c p).regions i).rights/\(zh (P c p).regions i).rights<=7/\(zh (P c p).regions i).frame+(zh (P c p).regions i).pages<=c.frames:=by
 have hf:=g.frames
 have h:=g.regb p i hp hi
 simp only[zhp,zgs,Bool.and_eq_true,decide_eq_true_eq]at h
 have h1:=h.1.1.2
 have h2:=(g.regs p i hp hi).fits
 unfold Rg at h1 h2
 omega
noncomputable def za5(x:zf)(pg i:Nat):Bool:=decide ((pg:Int)>=(zh x.regions i).page)&&decide ((pg:Int)<(zh x.regions i).page+(zh x.regions i).pages)
noncomputable def zdE(x:zf)(pg:Nat):Bool:=(List.range x.regions.length).any (za5 x pg)
noncomputable def zaV(x:zf)(a:Nat):Int:=match(List.range x.regions.length).find? (za5 x (a / 16))with
 | some i=>((zh x.regions i).frame+(a / 16:Nat)-(zh x.regions i).page)*16+(a % 16:Nat)
 | none => -1
noncomputable def zmE(x:zf)(pg:Nat):Int:=match(List.range x.regions.length).find? (za5 x pg)with
 | some i=>(zh x.regions i).rights
 | none=>0
theorem zI8{a:Int}{n:Nat}(h:a=(n:Int))(hn:n<4611686018427387904):bop .quo .i64 a 16=((n / 16:Nat):Int):=by subst h;exact zcg n hn
theorem zqj{x:zf}(hx:zcM x){a:Nat}(ha:a<4096):zpk x (a:Int)=some (zaV x a):=by
 have h8:=hx.few
 have hpg:a / 16<256:=by omega
 generalize hpe:a / 16=pg at hpg
 have hq:bop .quo .i64 (a:Int) 16=((pg:Nat):Int):=by rw[zcg _ (by omega),hpe]
 have hr:bop .rem .i64 (a:Int) 16=((a % 16:Nat):Int):=zha _
 have h:=zfc (l:=List.range x.regions.length) (f:=fun i=>zvJ x (a:Int) (.l0 (i:Int))) (q:=za5 x pg) (g:=fun i=>some (((zh x.regions i).frame+pg-(zh x.regions i).page)*16+(a % 16:Nat))) (e:=some (-1)) (fun i hi=>by
  rw[List.length_range]at hi
  rw[List.getElem_range]
  obtain ⟨a1,a2,a3,a4⟩:=hx.page i hi
  obtain ⟨b1,b2⟩:=hx.frame i hi
  have w1:i64.wrap ((zh x.regions i).page+(zh x.regions i).pages)=(zh x.regions i).page+(zh x.regions i).pages:=zal _ (by omega) (by omega)
  have w2:i64.wrap ((zh x.regions i).frame+(pg:Int))=(zh x.regions i).frame+pg:=zal _ (by omega) (by omega)
  have w3:i64.wrap ((zh x.regions i).frame+pg-(zh x.regions i).page)=(zh x.regions i).frame+pg-(zh x.regions i).page:=zal _ (by omega) (by omega)
  have w4:i64.wrap (((zh x.regions i).frame+pg-(zh x.regions i).page)*16)=((zh x.regions i).frame+pg-(zh x.regions i).page)*16:=zal _ (by omega) (by omega)
  have w5:i64.wrap (((zh x.regions i).frame+pg-(zh x.regions i).page)*16+((a % 16:Nat):Int))=((zh x.regions i).frame+pg-(zh x.regions i).page)*16+((a % 16:Nat):Int):=zal _ (by omega) (by omega)
  rw[zsG]
  simp only[zuQ,tnC,zY hi,zn hi,cnT,hq,hr,w1,w2,w3,w4,w5,zi i (show i<4611686018427387904 by omega),zfT,id,Tree.run,Option.bind_some]
  rfl) (by
  rw[List.length_range,zsG]
  simp only[zuQ,z9 (Nat.le_refl _),cnF,id,Tree.run,Option.bind_some])
 refine Eq.trans h ?_
 unfold zaV
 rw[hpe]
 cases (List.range x.regions.length).find? (za5 x pg) <;> rfl
theorem zBq{x:zf}(hx:zcM x){pg:Nat}(hpg:pg<256):zvZ x (pg:Int)=some (zmE x pg):=by
 have h8:=hx.few
 have h:=zfc (l:=List.range x.regions.length) (f:=fun i=>zvK x (pg:Int) (.l0 (i:Int))) (q:=za5 x pg) (g:=fun i=>some ((zh x.regions i).rights)) (e:=some 0) (fun i hi=>by
  rw[List.length_range]at hi
  rw[List.getElem_range]
  obtain ⟨a1,a2,a3,a4⟩:=hx.page i hi
  have w1:i64.wrap ((zh x.regions i).page+(zh x.regions i).pages)=(zh x.regions i).page+(zh x.regions i).pages:=zal _ (by omega) (by omega)
  rw[zsH]
  simp only[zuR,tnC,zY hi,zn hi,cnT,w1,zi i (show i<4611686018427387904 by omega),zfT,id,Tree.run,Option.bind_some]
  rfl) (by
  rw[List.length_range,zsH]
  simp only[zuR,z9 (Nat.le_refl _),cnF,id,Tree.run,Option.bind_some])
 refine Eq.trans h ?_
 unfold zmE
 cases (List.range x.regions.length).find? (za5 x pg) <;> rfl
theorem zxH{x:zf}(hx:zcM x){pg:Nat}(hpg:pg<256):decide (zaV x (16*pg)<0)=!(zdE x pg):=by
 unfold zaV zdE
 rw[show 16*pg / 16=pg by omega]
 cases h:(List.range x.regions.length).find? (za5 x pg)with
 | some i=>
  have hm:=List.mem_of_find?_eq_some h
  have hq:=List.find?_some h
  have hi:i<x.regions.length:=by simpa using hm
  obtain ⟨b1,b2⟩:=hx.frame i hi
  have hq':=hq
  unfold za5 at hq'
  simp only[Bool.and_eq_true,decide_eq_true_eq]at hq'
  rw[any_t.2 ⟨i,hi,hq⟩]
  exact decide_eq_false (by dsimp only;omega)
 | none=>
  rw[List.find?_eq_none]at h
  rw[any_f.2 fun i hi=>by have:=h i (by simpa using hi);simpa using this]
  rfl
theorem zfN{x:zf}(hx:zcM x){t:Nat}(ht:t<16):zC x t=(List.range 16).any fun k=>zdE x (16*t+k):=by
 rw[Bool.eq_iff_iff]
 unfold zC zdE
 rw[any_t,any_t]
 constructor
 . rintro ⟨i,hi,hq⟩
   obtain ⟨a1,a2,a3,a4⟩:=hx.page i hi
   unfold zeA at hq
   simp only[Bool.and_eq_true,decide_eq_true_eq]at hq
   obtain ⟨h1,h2⟩:=hq
   by_cases hc:16*t<=(zh x.regions i).page.toNat
   . refine⟨(zh x.regions i).page.toNat-16*t,by omega,any_t.2 ⟨i,hi,?_⟩⟩
     unfold za5
     simp only[Bool.and_eq_true,decide_eq_true_eq]
     omega
   . refine⟨0,by omega,any_t.2 ⟨i,hi,?_⟩⟩
     unfold za5
     simp only[Bool.and_eq_true,decide_eq_true_eq]
     omega
 . rintro ⟨k,hk,h⟩
   obtain ⟨i,hi,hq⟩:=any_t.1 h
   obtain ⟨a1,a2,a3,a4⟩:=hx.page i hi
   unfold za5 at hq
   simp only[Bool.and_eq_true,decide_eq_true_eq]at hq
   refine⟨i,hi,?_⟩
   unfold zeA
   simp only[Bool.and_eq_true,decide_eq_true_eq]
   omega
theorem zhL{q:Nat->Bool}{t:Nat} : ∀ {n:Nat},t<n->q t=true->cnt q t<cnt q n
 | 0,h,_=>by omega
 | n+1,h,hq=>by
  rw[zbM]
  by_cases htn:t=n
  . subst htn;rw[hq];simp
  . have:=zhL (q:=q) (t:=t) (n:=n) (by omega) hq
    omega
structure zyn(x:zf)(pl:zj)(f N:Nat):Prop where
 tables:pl.tables=zht f (zbr x)
 root:pl.root=(f:Int)
 room:16*(f+zbr x+1)<=N
 least:N<=16384
section
variable {c:za} (g:zaA c) (w:zeJ c)
include g w
theorem zlH : ∀ {i n:Nat},i<=n->tF c i<=tF c n:=by
 intro i n h
 induction n with
 | zero=>rw[Nat.le_zero.1 h];exact Nat.le_refl _
 | succ n ih=>
  by_cases hi:i<=n
  . have:=ih hi;rw[tF];omega
  . obtain rfl:i=n+1:=by omega
    exact Nat.le_refl _
theorem zqi{p:Nat}(hp:p<nP c):zyn (P c p) (full c p) (tF c p) (nW c):=by
 have h1:=zlH g w (show p+1<=nP c by omega)
 rw[tF]at h1
 have h2:=w.need
 have h3:=w.room
 have h4:=g.frames
 exact⟨rfl,rfl,by unfold nW;omega,by unfold nW;omega⟩
end
theorem zxl{q:Nat->Bool}{n:Nat}(h : ∀ i,i<n->q i=false):(List.range n).find? q=none:=by
 rw[List.find?_eq_none]
 intro i hi
 rw[h i (List.mem_range.1 hi)];simp
def ziI(q:Nat->Bool)(k:Nat):List Nat:=(List.range k).filter q
theorem zot(q:Nat->Bool)(k:Nat):ziI q (k+1)=ziI q k++(if q k=true then [k]else []):=by
 unfold ziI
 rw[List.range_succ,List.filter_append]
 congr 1
 by_cases h:q k=true <;> simp[h]
theorem ziJ(q:Nat->Bool) : ∀ k,(ziI q k).length=cnt q k
 | 0=>rfl
 | k+1=>by
  rw[zot,List.length_append,ziJ q k,zbM]
  cases h:q k <;> simp
def tn(q:Nat->Bool)(n:Nat):Nat:=(ziI q 16).getD n 0
theorem zrH(q:Nat->Bool) : ∀ k n,n<cnt q k->q ((ziI q k).getD n 0)=true/\(ziI q k).getD n 0<k/\cnt q ((ziI q k).getD n 0)=n
 | 0,n,h=>by simp[cnt,tot]at h
 | k + 1,n,h=>by
  rw[zot]
  by_cases hn:n<cnt q k
  . obtain ⟨h1,h2,h3⟩:=zrH q k n hn
    have e:(ziI q k++(if q k=true then [k]else [])).getD n 0=(ziI q k).getD n 0:=by
     simp[List.getD,List.getElem?_append_left (show n<(ziI q k).length by rw[ziJ];exact hn)]
    rw[e]
    exact⟨h1,by omega,h3⟩
  . rw[zbM]at h
    cases hq:q k with
    | false=>rw[hq]at h;exact absurd h (by simpa using hn)
    | true=>
     rw[hq]at h
     have hnk:n=cnt q k:=by simp at h;omega
     have e:(ziI q k++(if true=true then [k]else [])).getD n 0=k:=by
      rw[if_pos rfl,List.getD,List.getElem?_append_right (by rw[ziJ];omega),ziJ,hnk]
      simp
     rw[e]
     exact⟨hq,by omega,hnk.symm⟩
theorem zDW{q:Nat->Bool}{n:Nat}(h:n<cnt q 16):q (tn q n)=true/\tn q n<16/\cnt q (tn q n)=n:=zrH q 16 n h
theorem zCV{q:Nat->Bool}{s t:Nat}(hs:q s=true)(ht:q t=true)(h:cnt q s=cnt q t):s=t:=by
 rcases Nat.lt_trichotomy s t with h1 | h1 | h1
 . have:=zhL h1 hs;omega
 . exact h1
 . have:=zhL h1 ht;omega
theorem zB3{q:Nat->Bool}{t:Nat}(ht:t<16)(h:q t=true):tn q (cnt q t)=t:=by
 obtain ⟨h1,h2,h3⟩:=zDW (zhL ht h)
 exact zCV h1 h h3
noncomputable def ziA(a b:Int):Int:=bop .or .u32 (bop .or .u32 2147483648 (bop .shl .u32 (u32.wrap a) 3)) (u32.wrap b)
theorem zz2(a b:Int):zxS a b=ziA a b:=rfl
noncomputable def pgV(x:zf)(pg:Nat):Int:=match(List.range x.regions.length).find? (za5 x pg)with
 | some i=>ziA ((zh x.regions i).frame+pg-(zh x.regions i).page) (zh x.regions i).rights
 | none=>0
theorem zI4{x:zf}{pg:Nat}(h:zdE x pg=false):pgV x pg=0:=by
 unfold pgV
 rw[zxl (any_f.1 h)]
noncomputable def WT(x:zf)(f a:Nat):Int:=
 if a / 16=f then(if zC x (a % 16)=true then ziA ((f+1+cnt (zC x) (a % 16):Nat):Int) 0 else 0)
 else if f+1<=a / 16/\a / 16<f+1+zbr x then pgV x (16*tn (zC x) (a / 16-(f+1))+a % 16)else 0
noncomputable def RO(x:zf)(f:Nat)(h:Nat->Int)(t a:Nat):Int:=
 if a / 16=f then(if zC x (a % 16)=true/\a % 16<t then ziA ((f+1+cnt (zC x) (a % 16):Nat):Int) 0 else h a)
 else if f+1<=a / 16/\a / 16<f+1+cnt (zC x) t then pgV x (16*tn (zC x) (a / 16-(f+1))+a % 16)else h a
noncomputable def RI(x:zf)(f:Nat)(h:Nat->Int)(t i a:Nat):Int:=
 if a / 16=f+1+cnt (zC x) t/\a % 16<i/\zdE x (16*t+a % 16)=true then pgV x (16*t+a % 16)else RO x f h t a
noncomputable def TW(x:zf)(f:Nat)(h:Nat->Int)(a:Nat):Int:=if f<=a / 16/\a / 16<=f+zbr x then WT x f a else h a
theorem zI3{x:zf}(hx:zcM x){pg:Nat}(hpg:pg<256)(hb:zdE x pg=true):zxS (bop .quo .i64 (zaV x (16*pg)) 16) (zmE x pg)=pgV x pg:=by
 unfold zaV zmE pgV
 rw[show 16*pg / 16=pg by omega,show 16*pg % 16=0 by omega]
 cases h:(List.range x.regions.length).find? (za5 x pg)with
 | none=>
  obtain ⟨r,hr,hq⟩:=any_t.1 hb
  have:=List.find?_eq_none.1 h r (List.mem_range.2 hr)
  rw[hq]at this;exact absurd rfl this
 | some k=>
  have hkl:=List.mem_range.1 (List.mem_of_find?_eq_some h)
  have hkq:=List.find?_some h
  obtain ⟨a1,a2,a3,a4⟩:=hx.page k hkl
  obtain ⟨b1,b2⟩:=hx.frame k hkl
  simp only[za5,Bool.and_eq_true,decide_eq_true_eq]at hkq
  show ziA (bop .quo .i64 (((zh x.regions k).frame+(pg:Int)-(zh x.regions k).page)*16+((0:Nat):Int)) 16) (zh x.regions k).rights=ziA ((zh x.regions k).frame+(pg:Int)-(zh x.regions k).page) (zh x.regions k).rights
  obtain ⟨z,hz⟩ : ∃ z:Nat,(zh x.regions k).frame+(pg:Int)-(zh x.regions k).page=(z:Int):=⟨((zh x.regions k).frame+(pg:Int)-(zh x.regions k).page).toNat,by omega⟩
  rw[hz,zI8 (n:=z*16) (by omega) (by omega),Nat.mul_div_cancel _ (by decide)]
section
variable {x:zf} {pl:zj} {f N:Nat} (hx:zcM x) (hp:zyn x pl f N) (h:Nat->Int) (m0:List Int)
include hx hp
theorem zJo {t:Nat} (ht:t<16) : ∀ r i,i+r=16->zjd x pl m0 (.l4 (cnt (zC x) t:Int) (t:Int) ((List.range i).any fun k=>zdE x (16*t+k)) (i:Int) (mk N (RI x f h t i)))=zjd x pl m0 (.l4 (cnt (zC x) t:Int) (t:Int) (zC x t) ((16:Nat):Int) (mk N (RI x f h t 16))):=by
 have htl:pl.tables.length=zbr x:=by rw[hp.tables];simp[zht]
 have hc:=zbR (zC x) t
 have hr16:=hp.room
 have hN:=hp.least
 intro r
 induction r with
 | zero=>
  intro i hi
  rw[Nat.add_zero]at hi
  subst hi
  rw[zfN hx ht]
 | succ r ih=>
  intro i hi
  have hpg:16*t+i<256:=by omega
  have w1:i64.wrap ((t:Int)*16)=((16*t:Nat):Int):=zz _ _ (by omega) (by omega)
  have w2:i64.wrap (((16*t:Nat):Int)+(i:Int))=((16*t+i:Nat):Int):=zz _ _ (by omega) (by omega)
  have w3:i64.wrap (((16*t+i:Nat):Int)*16)=((16*(16*t+i):Nat):Int):=zz _ _ (by omega) (by omega)
  have p1':zpk x ((16*(16*t+i):Nat):Int)=some (zaV x (16*(16*t+i))):=zqj hx (by omega)
  have r1':zvZ x ((16*t+i:Nat):Int)=some (zmE x (16*t+i)):=zBq hx hpg
  have hn:=zxH hx hpg
  have hlt:decide ((i:Int)<16)=true:=decide_eq_true (by omega)
  cases hb:zdE x (16*t+i)with
  | false=>
   rw[hb]at hn
   rw[zfi]
   simp only[zkE,hlt,cnT,w1,w2,w3,p1',hn,Bool.not_false,zi i (show i<4611686018427387904 by omega),Tree.run,Option.bind_some]
   have e:((List.range i).any fun k=>zdE x (16*t+k))=((List.range (i+1)).any fun k=>zdE x (16*t+k)):=by rw[ziu,hb,Bool.or_false]
   have e2:mk N (RI x f h t i)=mk N (RI x f h t (i+1)):=zbS fun a _=>by
    unfold RI
    by_cases c:a / 16=f+1+cnt (zC x) t/\a % 16<i/\zdE x (16*t+a % 16)=true
    . rw[if_pos c,if_pos ⟨c.1,by omega,c.2.2⟩]
    . rw[if_neg c,if_neg]
      rintro ⟨c1,c2,c3⟩
      by_cases e:a % 16=i
      . rw[e,hb]at c3;cases c3
      . exact c ⟨c1,by omega,c3⟩
   rw[e,e2]
   exact ih (i+1) (by omega)
  | true=>
   rw[hb]at hn
   have htt:zC x t=true:=by rw[zfN hx ht,any_t];exact⟨i,by omega,hb⟩
   have hlt2:cnt (zC x) t<zbr x:=zhL ht htt
   have ha:zw pl.tables (cnt (zC x) t)=((f+1+cnt (zC x) t:Nat):Int):=by rw[hp.tables];exact zv9 hlt2
   have w4:i64.wrap (((f+1+cnt (zC x) t:Nat):Int)*16)=((16*(f+1+cnt (zC x) t):Nat):Int):=zz _ _ (by omega) (by omega)
   have w5:i64.wrap (((16*(f+1+cnt (zC x) t):Nat):Int)+(i:Int))=((16*(f+1+cnt (zC x) t)+i:Nat):Int):=zz _ _ (by omega) (by omega)
   have hin:16*(f+1+cnt (zC x) t)+i<N:=by omega
   rw[zfi]
   simp only[zkE,hlt,cnT,cnF,w1,w2,w3,p1',hn,Bool.not_true,tnC,zn (show cnt (zC x) t<pl.tables.length by omega),r1',ha,w4,w5,zP,zn hin,zdK hin,zI3 hx hpg hb,zi i (show i<4611686018427387904 by omega),Tree.run,Option.bind_some]
   have e:((List.range (i+1)).any fun k=>zdE x (16*t+k))=true:=by rw[ziu,hb,Bool.or_true]
   have e2:(mk N fun a=>if a=16*(f+1+cnt (zC x) t)+i then pgV x (16*t+i)else RI x f h t i a)=mk N (RI x f h t (i+1)):=zbS fun a _=>by
    unfold RI
    by_cases c:a=16*(f+1+cnt (zC x) t)+i
    . have c1:a / 16=f+1+cnt (zC x) t:=by omega
      have c2:a % 16=i:=by omega
      rw[if_pos c,if_pos ⟨c1,by omega,by rw[c2];exact hb⟩,c2]
    . rw[if_neg c]
      by_cases c2:a / 16=f+1+cnt (zC x) t/\a % 16<i/\zdE x (16*t+a % 16)=true
      . rw[if_pos c2,if_pos ⟨c2.1,by omega,c2.2.2⟩]
      . rw[if_neg c2,if_neg]
        rintro ⟨d1,d2,d3⟩
        exact c2 ⟨d1,by omega,d3⟩
   have:=ih (i+1) (by omega)
   rw[e]at this
   rw[e2]
   exact this
theorem zDV (hz : ∀ a,f<=a / 16->a / 16<=f+zbr x->h a=0):zpg x pl (mk N h)=some (mk N (TW x f h)):=by
 have hr16:=hp.room
 have hN:=hp.least
 have htl:pl.tables.length=zbr x:=by rw[hp.tables];simp[zht]
 generalize hm0:mk N h=m00
 have key : ∀ r t,t+r=16->zjd x pl m00 (.l0 (cnt (zC x) t:Int) (t:Int) (mk N (RO x f h t)))=some (mk N (RO x f h 16)):=by
  intro r
  induction r with
  | zero=>
   intro t ht
   rw[Nat.add_zero]at ht
   subst ht
   rw[zfi]
   simp only[zkE,show decide (((16:Nat):Int)<16)=false from rfl,cnF,id,Tree.run,Option.bind_some]
  | succ r ih=>
   intro t ht
   have ht16:t<16:=by omega
   have hc:=zbR (zC x) t
   have e9 : ∀ (n:Nat) (m:List Int),zjd x pl m00 (.l9 (n:Int) (t:Int) m)=zjd x pl m00 (.l0 (n:Int) ((t+1:Nat):Int) m):=fun n m=>by
    rw[zfi]
    simp only[zkE,zi t (show t<4611686018427387904 by omega),Tree.run,Option.bind_some]
   have e0:mk N (RO x f h t)=mk N (RI x f h t 0):=zbS fun a _=>by unfold RI;rw[if_neg (by omega)]
   rw[zfi]
   simp only[zkE,show decide ((t:Int)<16)=true from decide_eq_true (by omega),cnT,Tree.run,Option.bind_some]
   have e1':zjd x pl m00 (.l4 (cnt (zC x) t:Int) (t:Int) false 0 (mk N (RI x f h t 0)))=_:=zJo hx hp h m00 ht16 16 0 (by omega)
   rw[e0,e1',zfi]
   simp only[zkE,show decide (((16:Nat):Int)<16)=false from rfl,cnF,Tree.run,Option.bind_some]
   cases htt:zC x t with
   | false=>
    have ec:cnt (zC x) (t+1)=cnt (zC x) t:=by rw[zbM,htt];rfl
    have hnop : ∀ i,i<16->zdE x (16*t+i)=false:=fun i hi=>by
     rw[zfN hx ht16]at htt
     exact any_f.1 htt i hi
    have e2:mk N (RI x f h t 16)=mk N (RO x f h (t+1)):=zbS fun a _=>by
     unfold RI
     rw[if_neg (by rintro ⟨_,c2,c3⟩;rw[hnop _ c2]at c3;cases c3)]
     unfold RO
     rw[ec]
     by_cases c:a / 16=f
     . rw[if_pos c,if_pos c]
       by_cases d:zC x (a % 16)=true/\a % 16<t
       . rw[if_pos d,if_pos ⟨d.1,by omega⟩]
       . rw[if_neg d,if_neg]
         rintro ⟨d1,d2⟩
         by_cases e:a % 16=t
         . rw[e,htt]at d1;cases d1
         . exact d ⟨d1,by omega⟩
     . rw[if_neg c,if_neg c]
    rw[cnF,e9,e2,← ec]
    exact ih (t+1) (by omega)
   | true =>
    have ec:cnt (zC x) (t+1)=cnt (zC x) t+1:=by rw[zbM,htt];rfl
    have hlt2:cnt (zC x) t<zbr x:=zhL ht16 htt
    have ha:zw pl.tables (cnt (zC x) t)=((f+1+cnt (zC x) t:Nat):Int):=by rw[hp.tables];exact zv9 hlt2
    have w1:i64.wrap (pl.root*16)=((16*f:Nat):Int):=zz _ _ (by rw[hp.root];omega) (by omega)
    have w2:i64.wrap (((16*f:Nat):Int)+(t:Int))=((16*f+t:Nat):Int):=zz _ _ (by omega) (by omega)
    have hin:16*f+t<N:=by omega
    rw[cnT,tnC,zn (show cnt (zC x) t<pl.tables.length by omega),cnT,w1,w2,zP,zn hin,cnT,tnC,zi _ (show cnt (zC x) t<4611686018427387904 by omega),e9,ha,zdK hin,← ec]
    have e2:(mk N fun a=>if a=16*f+t then zxS ((f+1+cnt (zC x) t:Nat):Int) 0 else RI x f h t 16 a)=mk N (RO x f h (t+1)):=zbS fun a _=>by
     rw[zz2]
     by_cases c:a=16*f+t
     . have c1:a / 16=f:=by omega
       have c2:a % 16=t:=by omega
       unfold RO
       rw[if_pos c,if_pos c1,c2,if_pos ⟨htt,by omega⟩]
     . rw [if_neg c]
       unfold RI
       by_cases d:a / 16=f+1+cnt (zC x) t
       . have e1:RO x f h (t+1) a=pgV x (16*t+a % 16):=by
          unfold RO
          rw[if_neg (by omega),if_pos (by omega),show a / 16-(f+1)=cnt (zC x) t by omega,zB3 ht16 htt]
         rw[e1]
         cases hb:zdE x (16*t+a % 16)with
         | true=>rw[if_pos ⟨d,by omega,rfl⟩]
         | false=>
          rw[if_neg (by rintro ⟨_,_,e⟩;cases e),zI4 hb]
          unfold RO
          rw[if_neg (by omega),if_neg (by omega)]
          exact hz a (by omega) (by omega)
       . rw [if_neg (fun e=>d e.1)]
         unfold RO
         by_cases c1:a / 16=f
         . rw[if_pos c1,if_pos c1]
           by_cases q:zC x (a % 16)=true/\a % 16<t
           . rw[if_pos q,if_pos ⟨q.1,by omega⟩]
           . rw[if_neg q,if_neg]
             rintro ⟨d1,d2⟩
             exact q ⟨d1,by omega⟩
         . rw[if_neg c1,if_neg c1]
           by_cases q:f+1<=a / 16/\a / 16<f+1+cnt (zC x) t
           . rw[if_pos q,if_pos (show f+1<=a / 16/\a / 16<f+1+cnt (zC x) (t+1)by omega)]
           . rw[if_neg q,if_neg (show ¬ (f+1<=a / 16/\a / 16<f+1+cnt (zC x) (t+1))by omega)]
    rw[e2]
    exact ih (t+1) (by omega)
 have e0:mk N h=mk N (RO x f h 0):=zbS fun a _=>by
  unfold RO
  by_cases c:a / 16=f
  . rw[if_pos c,if_neg (by omega)]
  . rw[if_neg c,if_neg (show ¬ (f+1<=a / 16/\a / 16<f+1+cnt (zC x) 0)by have:cnt (zC x) 0=0:=rfl;omega)]
 have e16:mk N (RO x f h 16)=mk N (TW x f h):=zbS fun a _=>by
  have hnt:zbr x=cnt (zC x) 16:=rfl
  unfold RO TW WT
  by_cases c:a / 16=f
  . rw[if_pos c,if_pos (show f<=a / 16/\a / 16<=f+zbr x by omega),if_pos c]
    by_cases d:zC x (a % 16)=true
    . rw[if_pos ⟨d,by omega⟩,if_pos d]
    . rw[if_neg (fun e=>d e.1),if_neg d]
      exact hz a (by omega) (by omega)
  . rw[if_neg c]
    by_cases d:f+1<=a / 16/\a / 16<f+1+zbr x
    . rw[if_pos (show f+1<=a / 16/\a / 16<f+1+cnt (zC x) 16 from d),if_pos (show f<=a / 16/\a / 16<=f+zbr x by omega),if_neg c,if_pos d]
    . rw[if_neg (show ¬ (f+1<=a / 16/\a / 16<f+1+cnt (zC x) 16)from d),if_neg (show ¬ (f<=a / 16/\a / 16<=f+zbr x)by omega)]
 unfold zpg zEz
 have hk:=key 16 0 (by omega)
 rw[← e0,hm0,e16]at hk
 exact hk
end
theorem zq0(n:Int):0<=u32.wrap n/\u32.wrap n<4294967296:=by
 simp[IntKind.wrap,IntKind.bits,IntKind.signed];omega
theorem or32(x y:Int):bop .or .u32 x y=u32.wrap (((BitVec.ofInt 32 x ||| BitVec.ofInt 32 y).toNat:Nat):Int):=by kernel_rfl
theorem zru(a b:Int):0<=ziA a b/\ziA a b<4294967296:=by
 unfold ziA
 rw[or32 (bop .or .u32 2147483648 (bop .shl .u32 (u32.wrap a) 3))]
 exact zq0 _
theorem zDy(x:zf)(pg:Nat):0<=pgV x pg/\pgV x pg<4294967296:=by
 unfold pgV
 split
 . exact zru _ _
 . exact⟨Int.le_refl _,by omega⟩
theorem zGq(x:zf)(f a:Nat):0<=WT x f a/\WT x f a<4294967296:=by
 unfold WT
 split
 . split
   . exact zru _ _
   . exact⟨Int.le_refl _,by omega⟩
 . split
   . exact zDy _ _
   . exact⟨Int.le_refl _,by omega⟩
noncomputable def stA(c:za)(p:Nat):Nat:=pAt c p+19
noncomputable def zmj(x:zf)(prog:List Int)(h:Nat->Int):Nat->Nat->Int
 | 0=>h
 | n+1=>fun a=>if(a:Int)=zaV x n then zw prog n else zmj x prog h n a
noncomputable def zrk(c:za)(l:List (List Int))(h:Nat->Int)(p:Nat):Nat->Int:=
 if p<l.length then zmj (P c p) (zW l p) (fun a=>if a=pAt c p+18 then u32.wrap (P c p).entry else TW (P c p) (tF c p) h a) (zW l p).length
 else fun a=>if a=pAt c p+18 then u32.wrap (P c p).entry else TW (P c p) (tF c p) h a
noncomputable def zcO(c:za)(l:List (List Int)):Nat->Nat->Int
 | 0=>fun _=>0
 | p+1=>zrk c l (zcO c l p) p
def InT(c:za)(p a:Nat):Prop:=tF c p<=a / 16/\a / 16<=tF c p+zbr (P c p)
theorem zeL(c:za) : ∀ n,cAt c 0<=cAt c n
 | 0=>Nat.le_refl _
 | n+1=>by
  have:=zeL c n
  show cAt c 0<=cAt c n+2+stg (Ch c n)+(dl c n).length*prt (Ch c n)
  omega
theorem zAu(c:za){a:Nat}(h:a<cAt c (nC c)){p:Nat} : ¬ InT c p a:=by
 rintro ⟨h1,h2⟩
 have h3:tF c 0=(cAt c (nC c)+15) / 16:=rfl
 have h4:tF c 0<=tF c p:=zle c p
 omega
theorem zqg{c:za}{p:Nat}(hp:p<nP c):pAt c p+24<=cAt c (nC c)/\16*kF0 c+2<=pAt c p:=by
 have h1:=zeL c (nC c)
 have h2:cAt c 0=16*kF0 c+2+24*nP c:=rfl
 have h4:pAt c p=16*kF0 c+2+24*p:=rfl
 omega
section
variable {c:za} (g:zaA c) (w:zeJ c)
include g w
theorem zuu{p q a:Nat}(hp:p<nP c)(hq:q<nP c)(h1:InT c p a)(h2:InT c q a):p=q:=by
 obtain ⟨a1,a2⟩:=h1
 obtain ⟨b1,b2⟩:=h2
 have e1:tF c (p+1)=tF c p+(1+zbr (P c p)):=rfl
 have e2:tF c (q+1)=tF c q+(1+zbr (P c q)):=rfl
 rcases Nat.lt_trichotomy p q with h | h | h
 . have:=zlH g w (show p+1<=q by omega);omega
 . exact h
 . have:=zlH g w (show q+1<=p by omega);omega
theorem zqn{p i a:Nat}(hp:p<nP c)(hi:i<(P c p).regions.length)(h1:(zh (P c p).regions i).frame<=((a / 16:Nat):Int))(h2:((a / 16:Nat):Int)<(zh (P c p).regions i).frame+(zh (P c p).regions i).pages) : ¬ (16*kF0 c<=a/\a<16*tF c (nP c)):=by
 rintro ⟨h3,h4⟩
 have hk:=w.kernel
 have hr:=w.room
 have hn:=w.need
 have hf:=g.frames
 have ha:=w.apart p i hp hi
 have hx:=(g.regs p i hp hi)
 have hx1:=hx.fits
 have hx2:=hx.frame
 have hx3:=hx.ok.pages
 unfold Rg at ha hx1 hx2 hx3
 have e:kF0 c=c.kernel.toNat:=rfl
 have:=zAE (a:=(zh (P c p).regions i).frame) (m:=(zh (P c p).regions i).pages) (b:=c.kernel) (o:=c.room) (x:=((a / 16:Nat):Int)) (by omega) (by omega) ⟨h1,h2⟩ (by omega)
 rw[ha]at this
 cases this
theorem zj3{p a:Nat}{z:Int}(hp:p<nP c)(h:zaV (P c p) a=z)(hz:0<=z) : ∃ i,i<(P c p).regions.length/\(List.range (P c p).regions.length).find? (za5 (P c p) (a / 16))=some i/\(zh (P c p).regions i).frame<=((z.toNat / 16:Nat):Int)/\((z.toNat / 16:Nat):Int)<(zh (P c p).regions i).frame+(zh (P c p).regions i).pages/\z<(nW c:Int):=by
 have hf:=g.frames
 unfold zaV at h
 cases hq:(List.range (P c p).regions.length).find? (za5 (P c p) (a / 16))with
 | none=>rw[hq]at h;dsimp only at h;omega
 | some i=>
  rw[hq]at h
  dsimp only at h
  have hi:=List.mem_range.1 (List.mem_of_find?_eq_some hq)
  have hqi:=List.find?_some hq
  simp only[za5,Bool.and_eq_true,decide_eq_true_eq]at hqi
  obtain ⟨_,_,r3⟩:=zh0 g hp i hi
  obtain ⟨b1,_⟩:=(zcG g hp).frame i hi
  refine⟨i,hi,rfl,?_,?_,?_⟩
  . omega
  . omega
  . unfold nW;omega
theorem zxG{p a b:Nat}(hp:p<nP c)(h:zaV (P c p) a=(b:Int)) : ¬ (16*kF0 c<=b/\b<16*tF c (nP c)):=by
 obtain ⟨i,hi,_,h1,h2,_⟩:=zj3 g w hp h (by omega)
 exact zqn g w hp hi (by simpa using h1) (by simpa using h2)
theorem zmk{p:Nat}(hp:p<nP c)(l:List Int)(h:Nat->Int){a:Nat}(ha:16*kF0 c<=a/\a<16*tF c (nP c)) : ∀ n,zmj (P c p) l h n a=h a
 | 0=>rfl
 | n+1=>by
  unfold zmj
  rw[if_neg fun e=>zxG g w hp e.symm ha]
  exact zmk hp l h ha n
omit g w in
theorem zAp{x:zf}{l:List Int}(hl : ∀ j,0<=zw l j/\zw l j<4294967296){h:Nat->Int}(hu:U32 h) : ∀ n,U32 (zmj x l h n)
 | 0=>hu
 | n+1=>fun a=>by
  unfold zmj
  split
  . exact hl _
  . exact zAp hl hu n a
structure BootI(c:za)(p:Nat)(h:Nat->Int):Prop where
 rng:U32 h
 done : ∀ q,q<p->∀ a,InT c q a->h a=WT (P c q) (tF c q) a
 zero : ∀ a,16*kF0 c<=a->a<16*tF c (nP c)->(∀ q,q<p->¬ InT c q a)->(∀ q,q<p->a ≠ pAt c q+18)->h a=0
omit g w in
theorem zpA{p a:Nat}(h:InT c p a):pAt c (nP c)<=a:=by
 obtain ⟨h1,h2⟩:=h
 have h3:tF c 0=(cAt c (nC c)+15) / 16:=rfl
 have h4:tF c 0<=tF c p:=zle c p
 have h5:=zeL c (nC c)
 have h6:cAt c 0=pAt c (nP c):=rfl
 omega
theorem zte{p a:Nat}(hp:p<nP c)(h:InT c p a):16*kF0 c<=a/\a<16*tF c (nP c):=by
 have h1:=zpA h
 have h2:pAt c (nP c)=16*kF0 c+2+24*nP c:=rfl
 obtain ⟨h3,h4⟩:=h
 have e1:tF c (p+1)=tF c p+(1+zbr (P c p)):=rfl
 have:=zlH g w (show p+1<=nP c by omega)
 omega
theorem BootI.step{p:Nat}{h:Nat->Int}(hb:BootI c p h)(hp:p<nP c){l:List (List Int)}(hl : ∀ i j,0<=zw (zW l i) j/\zw (zW l i) j<4294967296):BootI c (p+1) (zrk c l h p):=by
 have hpt:=zqg hp
 have h0:BootI c (p+1) (fun a=>if a=pAt c p+18 then u32.wrap (P c p).entry else TW (P c p) (tF c p) h a):=by
  refine⟨fun a=>?_,fun q hq a ha=>?_,fun a h1 h2 h3 h4=>?_⟩
  . show 0<=(if a=pAt c p+18 then _ else _)/\(if a=pAt c p+18 then _ else _)<_
    split
    . exact zq0 _
    . unfold TW
      split
      . exact zGq _ _ _
      . exact hb.rng a
  . show(if a=pAt c p+18 then _ else _)=_
    have:=zpA ha
    have h2:pAt c (nP c)=16*kF0 c+2+24*nP c:=rfl
    have h4:pAt c p=16*kF0 c+2+24*p:=rfl
    rw[if_neg (by omega)]
    unfold TW
    by_cases e:q=p
    . subst e;rw[if_pos (show tF c q<=a / 16/\a / 16<=tF c q+zbr (P c q)from ha)]
    . rw[if_neg (show ¬ (tF c p<=a / 16/\a / 16<=tF c p+zbr (P c p))from fun hn=>e (zuu g w (by omega) hp ha hn))]
      exact hb.done q (by omega) a ha
  . show(if a=pAt c p+18 then _ else _)=_
    rw[if_neg (h4 p (by omega))]
    unfold TW
    rw[if_neg (show ¬ (tF c p<=a / 16/\a / 16<=tF c p+zbr (P c p))from h3 p (by omega))]
    exact hb.zero a h1 h2 (fun q hq=>h3 q (by omega)) fun q hq=>h4 q (by omega)
 unfold zrk
 split
 . refine⟨zAp (hl p) h0.rng _,fun q hq a ha=>?_,fun a h1 h2 h3 h4=>?_⟩
   . rw[zmk g w hp _ _ (zte g w (by omega) ha)]
     exact h0.done q hq a ha
   . rw[zmk g w hp _ _ ⟨h1,h2⟩]
     exact h0.zero a h1 h2 h3 h4
 . exact h0
theorem zlU{l:List (List Int)}(hl : ∀ i j,0<=zw (zW l i) j/\zw (zW l i) j<4294967296) : ∀ p,p<=nP c->BootI c p (zcO c l p)
 | 0,_=>⟨fun _=>⟨Int.le_refl _,by show(0:Int)<_;omega⟩,fun q hq=>absurd hq (Nat.not_lt_zero _),fun _ _ _ _ _=>rfl⟩
 | p+1,hp=>(zlU hl p (by omega)).step g w (by omega) hl
end
structure InvC(c:za)(f:Nat->Int):Prop where
 w:zdt c f
 tab : ∀ p,p<nP c->∀ a,InT c p a->f a=WT (P c p) (tF c p) a
 st : ∀ p,p<nP c->(f (stA c p)=0 ∨ f (stA c p)=1 ∨ f (stA c p)=3)/\f (stA c p+1)=0/\f (stA c p+2)=0/\f (stA c p+3)=0/\f (stA c p+4)<=(P c p).outputs
theorem zrl{c:za}(g:zaA c)(w:zeJ c)(ho : ∀ p,p<nP c->0<=(P c p).outputs){l:List (List Int)}(hl : ∀ i j,0<=zw (zW l i) j/\zw (zW l i) j<4294967296):InvC c (zcO c l (nP c)):=by
 have hb:=zlU g w hl (nP c) (Nat.le_refl _)
 have key : ∀ a,pAt c (nP c)<=a->a<cAt c (nC c)->zcO c l (nP c) a=0:=fun a h1 h2=>by
  have h3:tF c 0=(cAt c (nC c)+15) / 16:=rfl
  have h4:tF c 0<=tF c (nP c):=zle c _
  have h5:pAt c (nP c)=16*kF0 c+2+24*nP c:=rfl
  refine hb.zero a (by omega) (by omega) (fun q hq=>zAu c h2) fun q hq e=>?_
  have h4:pAt c q=16*kF0 c+2+24*q:=rfl
  omega
 have kst : ∀ p i,p<nP c->i<5->zcO c l (nP c) (stA c p+i)=0:=fun p i hp hi=>by
  have h1:=zqg hp
  have h3:tF c 0=(cAt c (nC c)+15) / 16:=rfl
  have h4:tF c 0<=tF c (nP c):=zle c _
  unfold stA
  refine hb.zero _ (by omega) (by omega) (fun q hq=>zAu c (by omega)) fun q hq e=>?_
  have h4:pAt c q=16*kF0 c+2+24*q:=rfl
  have h5:pAt c p=16*kF0 c+2+24*p:=rfl
  omega
 have hc0 : ∀ k,pAt c (nP c)<=cAt c k:=fun k=>zeL c k
 refine⟨⟨hb.rng,fun k hk=>zBT (g.chan k hk).1 fun i hi=>?_,fun k hk j hj=>zBe (g.chan k hk).1 fun i hi=>?_⟩,fun p hp a ha=>hb.done p hp a ha,fun p hp=>⟨.inl (kst p 0 hp (by omega)),kst p 1 hp (by omega),kst p 2 hp (by omega),kst p 3 hp (by omega),?_⟩⟩
 . have h1:=zhF c k
   have h2:=zcP c (show k+1<=nC c by omega)
   have h3:=hc0 k
   have h4:=zcd c k
   exact key _ (by omega) (by omega)
 . have h1:=ziY c hj
   have h2:=zcP c (show k+1<=nC c by omega)
   have h3:=hc0 k
   have h4:=zcd c k
   have h5:=ziZ c k j
   exact key _ (by omega) (by omega)
 . rw[kst p 4 hp (by omega)];exact ho p hp
def zCWT(k:Nat):Bool:=(List.range 128).all fun a=>(List.range 8).all fun b=>decide (zk7 (ziA (128*k+a:Nat) (b:Nat))=(((128*k+a:Nat):Int),(b:Int),true))
theorem zCWT0:zCWT 0=true:=by kernel_rfl
theorem zCWT1:zCWT 1=true:=by kernel_rfl
theorem zCWT2:zCWT 2=true:=by kernel_rfl
theorem zCWT3:zCWT 3=true:=by kernel_rfl
theorem zCWT4:zCWT 4=true:=by kernel_rfl
theorem zCWT5:zCWT 5=true:=by kernel_rfl
theorem zCWT6:zCWT 6=true:=by kernel_rfl
theorem zCWT7:zCWT 7=true:=by kernel_rfl
theorem zCW: ∀ k:Nat,k<8->zCWT k=true
 | 0,_=>zCWT0
 | 1,_=>zCWT1
 | 2,_=>zCWT2
 | 3,_=>zCWT3
 | 4,_=>zCWT4
 | 5,_=>zCWT5
 | 6,_=>zCWT6
 | 7,_=>zCWT7
 | n+8,h=>absurd h (by omega)
theorem zCX{a b:Int}(ha:0<=a/\a<1024)(hb:0<=b/\b<=7):zk7 (ziA a b)=(a,b,true):=by
 obtain ⟨a',rfl⟩ : ∃ n:Nat,a=(n:Int):=⟨a.toNat,by omega⟩
 obtain ⟨b',rfl⟩ : ∃ n:Nat,b=(n:Int):=⟨b.toNat,by omega⟩
 have h1:=List.all_eq_true.1 (zCW (a'/128) (by omega)) (a'%128) (List.mem_range.2 (by omega))
 have h2:=of_decide_eq_true (List.all_eq_true.1 h1 b' (List.mem_range.2 (by omega)))
 rwa[show 128*(a'/128)+a'%128=a' by omega] at h2
theorem zLM:zk7 0=(0,0,false):=by kernel_rfl
noncomputable def adr(c:za)(p:Nat)(r a:Int):Option Int:=
 if 0<=a/\a<4096 then match(List.range (P c p).regions.length).find? (za5 (P c p) (a.toNat / 16))with
  | some i=>if bop .andNot .i64 r (zh (P c p).regions i).rights=0 then some (zaV (P c p) a.toNat)else none
  | none=>none
 else none
noncomputable def zfr(c:za)(p:Nat)(r a:Int):Nat->Option (List Int)
 | 0=>some []
 | n+1=>(zfr c p r a n).bind fun l=>(adr c p r (a+(n:Int))).map fun z=>l++[z]
section
variable {c:za} (g:zaA c) (w:zeJ c)
include g w
theorem ztj{p:Nat}(hp:p<nP c){r a z:Int}(h:adr c p r a=some z) : ∃ (y i:Nat),z=(y:Int)/\y<nW c/\i<(P c p).regions.length/\(zh (P c p).regions i).frame<=((y / 16:Nat):Int)/\((y / 16:Nat):Int)<(zh (P c p).regions i).frame+(zh (P c p).regions i).pages/\bop .andNot .i64 r (zh (P c p).regions i).rights=0:=by
 unfold adr at h
 split at h
 . rename_i ha
   cases hq:(List.range (P c p).regions.length).find? (za5 (P c p) (a.toNat / 16))with
   | none=>rw[hq]at h;cases h
   | some i=>
    rw[hq]at h
    dsimp only at h
    split at h
    . rename_i hr
      cases h
      have hi:=List.mem_range.1 (List.mem_of_find?_eq_some hq)
      have hqi:=List.find?_some hq
      simp only[za5,Bool.and_eq_true,decide_eq_true_eq]at hqi
      obtain ⟨b1,_⟩:=(zcG g hp).frame i hi
      have h0:0<=zaV (P c p) a.toNat:=by
       unfold zaV
       rw[hq]
       dsimp only;omega
      obtain ⟨j,hj,hj1,h1,h2,h3⟩:=zj3 g w hp rfl h0
      rw[hq]at hj1
      cases hj1
      exact⟨(zaV (P c p) a.toNat).toNat,i,by omega,by omega,hi,h1,h2,hr⟩
    . cases h
 . cases h
theorem zit{p:Nat}(hp:p<nP c){r a:Int} : ∀ {n:Nat} {l:List Int},zfr c p r a n=some l->l.length=n/\∀ z ∈ l,∃ b,adr c p r b=some z
 | 0,l,h=>by
  unfold zfr at h
  cases h
  exact⟨rfl,fun _ hz=>absurd hz (List.not_mem_nil)⟩
 | n+1,l,h=>by
  unfold zfr at h
  cases h1:zfr c p r a n with
  | none=>rw[h1]at h;cases h
  | some l'=>
   rw[h1]at h
   cases h2:adr c p r (a+(n:Int))with
   | none=>rw[h2]at h;cases h
   | some z=>
    rw[h2]at h
    obtain ⟨i1,i2⟩:=zit hp h1
    cases h
    refine⟨by simp[i1],fun y hy=>?_⟩
    rcases List.mem_append.1 hy with hy | hy
    . exact i2 y hy
    . rw[List.mem_singleton.1 hy];exact⟨_,h2⟩
variable {f:Nat->Int} (hI:InvC c f)
include hI
theorem zAh{t:Int}(h0:0<=t)(h1:t<c.frames):zki (some ⟨mk (nW c) f⟩) t=some true:=by
 have hF:=g.frames
 have k1':zdH (some ⟨mk (nW c) f⟩)=some ((c.frames.toNat:Nat):Int):=zfa hI.w.u c.frames.toNat (by omega)
 unfold zki
 simp only[Tree.run0,Tree.run,k1',Option.bind_some,decide_eq_true (show t>=0 by omega),cnT]
 rw[decide_eq_true (by omega)]
theorem ztV{t i:Nat}(hi:i<16)(ht:16*t+i<nW c):(f (16*t+i)=0->zkj (some ⟨mk (nW c) f⟩) (t:Int) (i:Int)=some (0,0,92))/\∀ a b:Int,f (16*t+i)=ziA a b->0<=a->a<c.frames->0<=b->b<=7->zkj (some ⟨mk (nW c) f⟩) (t:Int) (i:Int)=some (a,b,0):=by
 have hF:=g.frames
 have hN:=(zih g w).2
 have w1:i64.wrap ((t:Int)*16)=((16*t:Nat):Int):=zz _ _ (by omega) (by omega)
 have w2:i64.wrap (((16*t:Nat):Int)+(i:Int))=((16*t+i:Nat):Int):=zz _ _ (by omega) (by omega)
 have r1':zey (some ⟨mk (nW c) f⟩) ((16*t+i:Nat):Int)=some (f (16*t+i),0):=zj6 (by omega) ht
 unfold zkj
 constructor
 . intro h
   simp only[Tree.run0,Tree.run,w1,w2,r1',Option.bind_some,h,zLM,beq_self_eq_true,Bool.not_true,Bool.not_false,cnF,cnT]
 . intro a b h ha1 ha2 hb1 hb2
   simp only[Tree.run0,Tree.run,w1,w2,r1',Option.bind_some,h,zCX (a:=a) (b:=b) ⟨ha1,by omega⟩ ⟨hb1,hb2⟩,beq_self_eq_true,Bool.not_true,cnF,cnT,zAh g w hI ha1 ha2]
theorem zJw{p:Nat}(hp:p<nP c){pg:Nat}(hpg:pg<256):match(List.range (P c p).regions.length).find? (za5 (P c p) pg)with
 | some i=>zic (some ⟨mk (nW c) f⟩) (tF c p:Int) (pg:Int)=some (⟨(pg:Int),(zh (P c p).regions i).frame+pg-(zh (P c p).regions i).page,(zh (P c p).regions i).rights⟩,0)
 | none=>∃ y,zic (some ⟨mk (nW c) f⟩) (tF c p:Int) (pg:Int)=some (y,92):=by
 have hx:=zcG g hp
 have hpl:=zqi g w hp
 have hroom:=hpl.room
 have hF:=g.frames
 have hnw:nW c=16*c.frames.toNat:=rfl
 have ht0:zbr (P c p)<=16:=zbR _ _
 have eq1:bop .quo .i64 (pg:Int) 16=((pg / 16:Nat):Int):=zcg _ (by omega)
 have eq2:bop .rem .i64 (pg:Int) 16=((pg % 16:Nat):Int):=zha _
 have hroot:=zAh g w hI (t:=(tF c p:Int)) (by omega) (by omega)
 have hw1:f (16*tF c p+pg / 16)=if zC (P c p) (pg / 16)=true then ziA ((tF c p+1+cnt (zC (P c p)) (pg / 16):Nat):Int) 0 else 0:=by
  rw[hI.tab p hp _ ⟨by omega,by omega⟩]
  unfold WT
  rw[if_pos (by omega),show(16*tF c p+pg / 16) % 16=pg / 16 by omega]
 obtain ⟨l1,l2⟩:=ztV g w hI (t:=tF c p) (i:=pg / 16) (by omega) (by omega)
 have htp:zC (P c p) (pg / 16)=true->∃ T:Nat,T=tF c p+1+cnt (zC (P c p)) (pg / 16)/\16*T+15<nW c/\f (16*T+pg % 16)=pgV (P c p) pg:=fun ht=>by
  have hlt:cnt (zC (P c p)) (pg / 16)<zbr (P c p):=zhL (by omega) ht
  refine⟨_,rfl,by omega,?_⟩
  rw[hI.tab p hp _ ⟨by omega,by omega⟩]
  unfold WT
  rw[if_neg (by omega),if_pos (by omega)]
  rw[show(16*(tF c p+1+cnt (zC (P c p)) (pg / 16))+pg % 16) / 16-(tF c p+1)=cnt (zC (P c p)) (pg / 16)by omega,zB3 (by omega) ht]
  congr 1
  omega
 have d1:decide ((pg:Int)<0)=false:=decide_eq_false (by omega)
 have d2:decide ((pg:Int)>=256)=false:=decide_eq_false (by omega)
 cases hq:(List.range (P c p).regions.length).find? (za5 (P c p) pg)with
 | none=>
  dsimp only
  cases ht:zC (P c p) (pg / 16)with
  | false=>
   rw[ht]at hw1
   have k1':=l1 hw1
   unfold zic
   simp only[Tree.run0,Tree.run,Option.isNone_some,cnF,hroot,Option.bind_some,Bool.not_true,d1,d2,eq1,k1',show((92:Int)==0)=false from rfl,Bool.not_false,cnT]
   exact⟨_,rfl⟩
  | true=>
   obtain ⟨T,hT,hT2,hfT⟩:=htp ht
   rw[ht,if_pos rfl,← hT]at hw1
   have k1':=l2 _ _ hw1 (by omega) (by omega) (by omega) (by omega)
   have hz:pgV (P c p) pg=0:=by unfold pgV;rw[hq]
   have k2':=(ztV g w hI (t:=T) (i:=pg % 16) (by omega) (by omega)).1 (hfT.trans hz)
   unfold zic
   simp only[Tree.run0,Tree.run,Option.isNone_some,cnF,hroot,Option.bind_some,Bool.not_true,d1,d2,eq1,eq2,k1',k2',beq_self_eq_true,show((92:Int)==0)=false from rfl,Bool.not_false,cnT]
   exact⟨_,rfl⟩
 | some i=>
  dsimp only
  have hi:=List.mem_range.1 (List.mem_of_find?_eq_some hq)
  have hqi:=List.find?_some hq
  have hpb:zdE (P c p) pg=true:=any_t.2 ⟨i,hi,hqi⟩
  have ht:zC (P c p) (pg / 16)=true:=by
   rw[zfN hx (by omega),any_t]
   exact⟨pg % 16,by omega,by rw[show 16*(pg / 16)+pg % 16=pg by omega];exact hpb⟩
  obtain ⟨T,hT,hT2,hfT⟩:=htp ht
  rw[if_pos ht,← hT]at hw1
  have k1':=l2 _ _ hw1 (by omega) (by omega) (by omega) (by omega)
  have hz:pgV (P c p) pg=ziA ((zh (P c p).regions i).frame+pg-(zh (P c p).regions i).page) (zh (P c p).regions i).rights:=by unfold pgV;rw[hq]
  simp only[za5,Bool.and_eq_true,decide_eq_true_eq]at hqi
  obtain ⟨b1,b2⟩:=hx.frame i hi
  obtain ⟨r1,r2,r3⟩:=zh0 g hp i hi
  have k2':=(ztV g w hI (t:=T) (i:=pg % 16) (by omega) (by omega)).2 _ _ (hfT.trans hz) (by omega) (by omega) r1 r2
  unfold zic
  simp only[Tree.run0,Tree.run,Option.isNone_some,cnF,hroot,Option.bind_some,Bool.not_true,d1,d2,eq1,eq2,k1',k2',beq_self_eq_true]
theorem zGs{p:Nat}(hp:p<nP c){r:Int}(hr:0<=r/\r<=7){a:Int}(ha:0<=a):match adr c p r a with
 | some z=>zia (some ⟨mk (nW c) f⟩) (tF c p:Int) a r=some (z,0)
 | none=>∃ y e:Int,e ≠ 0/\zia (some ⟨mk (nW c) f⟩) (tF c p:Int) a r=some (y,e):=by
 have hpl:=zqi g w hp
 have hroom:=hpl.room
 have hF:=g.frames
 have hnw:nW c=16*c.frames.toNat:=rfl
 have hroot:=zAh g w hI (t:=(tF c p:Int)) (by omega) (by omega)
 have d1:decide (r<0)=false:=decide_eq_false (by omega)
 have d2:decide (r>7)=false:=decide_eq_false (by omega)
 have d3:decide (a<0)=false:=decide_eq_false (by omega)
 unfold zia adr
 simp only[Tree.run0,Tree.run,Option.isNone_some,cnF,hroot,Option.bind_some,Bool.not_true,d1,d2,d3]
 by_cases h4:a<4096
 . rw [if_pos ⟨ha,h4⟩,decide_eq_false (show ¬ a>=4096 by omega)]
   obtain ⟨b,rfl⟩ : ∃ b:Nat,a=(b:Int):=⟨a.toNat,by omega⟩
   have eq1:bop .quo .i64 (b:Int) 16=((b / 16:Nat):Int):=zcg _ (by omega)
   have eq2:bop .rem .i64 (b:Int) 16=((b % 16:Nat):Int):=zha _
   rw[eq1,eq2,tnC]
   have hw:=zJw g w hI hp (pg:=b / 16) (by omega)
   cases hq:(List.range (P c p).regions.length).find? (za5 (P c p) (b / 16))with
   | none=>
    rw[hq]at hw
    obtain ⟨y,hw⟩:=hw
    simp only[hw,cnF,Option.bind_some,show((92:Int)==0)=false from rfl,Bool.not_false,cnT]
    exact⟨_,_,by omega,rfl⟩
   | some i=>
    rw[hq]at hw
    dsimp only at hw ⊢
    simp only[hw,cnF,Option.bind_some,beq_self_eq_true,Bool.not_true]
    by_cases hz:bop .andNot .i64 r (zh (P c p).regions i).rights=0
    . rw[if_pos hz,hz]
      have hi:=List.mem_range.1 (List.mem_of_find?_eq_some hq)
      have hqi:=List.find?_some hq
      simp only[za5,Bool.and_eq_true,decide_eq_true_eq]at hqi
      obtain ⟨b1,b2⟩:=(zcG g hp).frame i hi
      simp only[beq_self_eq_true,Bool.not_true,cnF]
      unfold zaV
      rw[hq]
      dsimp only
      rw[zal (((zh (P c p).regions i).frame+((b / 16:Nat):Int)-(zh (P c p).regions i).page)*16) (by omega) (by omega),zal _ (by omega) (by omega)]
    . rw[if_neg hz]
      have:(bop .andNot .i64 r (zh (P c p).regions i).rights==0)=false:=by simpa using hz
      simp only[this,Bool.not_false,cnT]
      exact⟨_,_,by omega,rfl⟩
 . rw[if_neg (by omega),decide_eq_true (show a>=4096 by omega)]
   exact⟨_,_,by omega,rfl⟩
end
structure zyf(c:za)(d:zT):Prop where
 frames:d.frames=c.frames
 outs:d.outs.length=nP c/\∀ p,p<nP c->zw d.outs p=(P c p).outputs
 at_:d.at_.length=nP c/\∀ p,p<nP c->zw d.at_ p=((stA c p+4:Nat):Int)
 words : ∀ e ∈ d.feeds,e.2.length<4611686018427387904
structure zti(c:za)(v:zaf):Prop where
 frames:v.frames=c.frames
 len:v.wards.length=nP c
 place : ∀ p,p<nP c->(zaB v.wards p).place=full c p
 most : ∀ p,p<nP c->0<=(zaB v.wards p).most
 outs : ∀ p,p<nP c->(zaB v.wards p).outs=(P c p).outputs
structure zpw(c:za)(s:zq)(D:zH)(d:zT)(v:zaf):Prop where
 frames:s.frames=c.frames
 lay:s.lay=lay c
 ducts:s.ducts=some D
 duc:zq6 c D
 devices:s.devices=some d
 dev:zyf c d
 wards:s.wards=some v
 ward:zti c v
structure zyd(x:zB):Prop where
 e1:0<=x.regs.e1/\x.regs.e1<4294967296
 e2:0<=x.regs.e2/\x.regs.e2<4294967296
 e3:0<=x.regs.e3/\x.regs.e3<4294967296
noncomputable def wrF(l m:List Int)(h:Nat->Int):Nat->Nat->Int
 | 0=>h
 | n+1=>over (wrF l m h n) (zw l n).toNat 1 fun _=>zw m n
noncomputable def inF(E:List (zR × List Int))(p e i:Int):Int × Int:=
 match zen (fun x:zR=>some ((p==x.partition)&&((e==x.epoch)&&true))) E with
 | some r=>if i>=((r.getD []).length:Int)then(7,0)else(0,zw (r.getD []) i.toNat)
 | none=>(7,0)
noncomputable def zfR(c:za)(p:Nat)(x:zB)(f:Nat->Int):Int × (Nat->Int):=
 if(zcV c p x.regs.e1).2=0 then
  if x.regs.e3=0 ∨ x.regs.e3>(zcV c p x.regs.e1).1 then(3,f)
  else match zfr c p 1 x.regs.e2 x.regs.e3.toNat with
   | none=>(4,f)
   | some l=>zlo c p x.regs.e1 (l.map fun z=>f z.toNat) f
 else((zcV c p x.regs.e1).2,f)
noncomputable def ze2(c:za)(p:Nat)(x:zB)(f:Nat->Int):(Int × Int × Int) × (Nat->Int):=
 if(zde c p x.regs.e1 f).1=0 then
  match zfr c p 2 x.regs.e2 (zde c p x.regs.e1 f).2.1.length with
  | none=>((4,0,0),f)
  | some l=>((0,((zde c p x.regs.e1 f).2.1.length:Int),(zde c p x.regs.e1 f).2.2),wrF l (zde c p x.regs.e1 f).2.1 (zig c p x.regs.e1 f) l.length)
 else(((zde c p x.regs.e1 f).1,0,0),f)
noncomputable def ze1(c:za)(p:Nat)(f:Nat->Int):Int × (Nat->Int):=
 if f (stA c p+4)>=(P c p).outputs then(5,f)else(0,over f (stA c p+4) 1 fun _=>f (stA c p+4)+1)
noncomputable def cDo(c:za)(E:List (zR × List Int))(p:Nat)(e:Int)(k:Nat)(x:zB)(f:Nat->Int):(Int × Int × Int) × (Nat->Int):=
 match k with
 | 0=>((0,0,0),over f (stA c p) 1 fun _=>1)
 | 1=>(((zfR c p x f).1,0,0),(zfR c p x f).2)
 | 2=>ze2 c p x f
 | 3=>(zkv c p x.regs.e1 f,f)
 | 4=>(((inF E p e x.regs.e1).1,(inF E p e x.regs.e1).2,0),f)
 | 5=>(((ze1 c p f).1,0,0),(ze1 c p f).2)
 | 6=>((0,(p:Int),e),f)
 | _=>((0,0,0),over f (stA c p) 1 fun _=>3)
def ztF(x:zB)(t:Int × Int × Int):zB:=⟨⟨x.regs.e0,t.1,t.2.1,t.2.2,x.regs.e4,x.regs.e5,x.regs.e6,x.regs.e7,x.regs.e8,x.regs.e9,x.regs.e10,x.regs.e11,x.regs.e12,x.regs.e13,x.regs.e14,x.regs.e15⟩,x.pC⟩
theorem zrV{K V:Type}{q:K->Bool} : ∀ E:List (K × V),mix (fun x=>some (q x)) E=some (E.findIdx? fun e=>q e.1)
 | []=>rfl
 | (k,v) :: E=>by
  unfold mix
  rw[zrV E,List.findIdx?_cons]
  cases q k <;> rfl
theorem zDm{K V:Type}{q:K->Bool}(E:List (K × V)) : ∃ r,zen (fun x=>some (q x)) E=some r/\∀ v,r=some v->∃ k,(k,v) ∈ E:=by
 unfold zen
 rw[zrV]
 cases h:E.findIdx? fun e=>q e.1 with
 | none=>exact⟨none,rfl,fun _ h=>by cases h⟩
 | some j=>
  refine⟨_,rfl,fun v hv=>?_⟩
  dsimp only at hv
  cases he:E[j]? with
  | none=>rw[he]at hv;cases hv
  | some e=>
   rw[he]at hv
   cases hv
   exact⟨e.1,List.mem_of_getElem? he⟩
theorem zeY{n:Int}(h:0<=n/\n<=100):zi2 n=⟨n,0,0⟩:=by
 unfold zi2
 rw[zbQ (by omega) (by omega)]
theorem zv3{c:za}(g:zaA c)(w:zeJ c){p:Nat}(hp:p<nP c):stA c p+5<=nW c/\nW c<=16384/\stA c p+5<=cAt c 0/\16*kF0 c<=stA c p:=by
 have h1:=zqg hp
 have h2:=zpX g w
 have h3:cAt c 0=16*kF0 c+2+24*nP c:=rfl
 have h4:pAt c p=16*kF0 c+2+24*p:=rfl
 have h5:=(zih g w).2
 unfold stA;omega
theorem zg3{c:za}(g:zaA c){p:Nat}(hp:p<nP c):(0<=(P c p).restarts/\(P c p).restarts<=15)/\(0<=(P c p).inputs/\(P c p).inputs<=16)/\(0<=(P c p).outputs/\(P c p).outputs<=16)/\0<=(P c p).entry/\(P c p).entry<=4095:=by
 have h:=g.part p hp
 unfold zeq zl4 zeN at h
 simp only[Bool.and_eq_true,decide_eq_true_eq]at h
 omega
section
variable {c:za} (g:zaA c) (w:zeJ c)
include g w
section
variable {f:Nat->Int} (hI:InvC c f) {v:zaf} (hv:zti c v) {p:Nat} (hp:p<nP c)
include hI hv hp
theorem zDU : ∃ a b d e,znf (some v) (p:Int) false (mk (nW c) f)=some (⟨full c p,a,b,d,e⟩,mk 5 fun i=>f (stA c p+i),0,⟨mk (nW c) f⟩):=by
 have hF:=g.frames
 obtain ⟨n1,n2,_⟩:=zv3 g w hp
 obtain ⟨s0,s1,s2,s3,s4⟩:=hI.st p hp
 obtain ⟨_,_,o1,_⟩:=zg3 g hp
 have e:((c.frames.toNat:Nat):Int)=c.frames:=by omega
 have k1':zdH (some ⟨mk (nW c) f⟩)=some ((c.frames.toNat:Nat):Int):=zfa hI.w.u c.frames.toNat (by omega)
 have hat:zng (some v) (p:Int) false (mk (nW c) f)=some (⟨full c p,(zaB v.wards p).entry,(zaB v.wards p).most,(P c p).outputs,⟨(),()⟩⟩,0,⟨mk (nW c) f⟩):=by
  unfold zng
  simp only[Tree.run0,Tree.run,k1',Option.bind_some,Option.getD_some,Option.isNone_some,Option.isSome_some,hv.frames,e,cnT,cnF,beq_self_eq_true,Bool.not_true,hv.len,decide_eq_false (show ¬ (p:Int)<0 by omega),decide_eq_false (show ¬ (p:Int)>=(nP c:Int)by omega),zn hp,tnC,hv.place p hp,hv.outs p hp]
 have t1':zcX (some ⟨mk (nW c) f⟩) (full c p).state 5=some (mk 5 fun i=>f (stA c p+i),0):=zqZ (f:=f) (a:=stA c p) (n:=5) (by omega) (by omega)
 have hr : ∀ en cr,zqS (⟨full c p,en,(zaB v.wards p).most,(P c p).outputs,cr⟩:zX) (mk 5 fun i=>f (stA c p+i))=some true:=fun en cr=>by
  have hm:=hv.most p hp
  have a0:zw (mk 5 fun i=>f (stA c p+i)) 0=f (stA c p):=zbg (by omega) _
  have a1:zw (mk 5 fun i=>f (stA c p+i)) 1=0:=(zbg (by omega) _).trans s1
  have a2:zw (mk 5 fun i=>f (stA c p+i)) 2=0:=(zbg (by omega) _).trans s2
  have a3:zw (mk 5 fun i=>f (stA c p+i)) 3=0:=(zbg (by omega) _).trans s3
  have a4:zw (mk 5 fun i=>f (stA c p+i)) 4=f (stA c p+4):=zbg (by omega) _
  have b2:(f (stA c p)==2)=false:=by rcases s0 with h | h | h <;> rw[h] <;> rfl
  unfold zqS
  simp only[Tree.run0,Tree.run,zP,a0,a1,a2,a3,a4,show zN 0 5=true from rfl,show zN 1 5=true from rfl,show zN 2 5=true from rfl,show zN 3 5=true from rfl,show zN 4 5=true from rfl,cnT,decide_eq_false (show ¬ f (stA c p)>3 by omega),decide_eq_false (show ¬ (0:Int)>(zaB v.wards p).most by omega),decide_eq_false (show ¬ f (stA c p+4)>(P c p).outputs by omega),show decide ((0:Int)>6)=false from rfl,beq_self_eq_true,Bool.not_true,b2,Bool.not_false,cnF]
 refine⟨(zaB v.wards p).entry,(zaB v.wards p).most,(P c p).outputs,⟨(),()⟩,?_⟩
 unfold znf
 simp only[Tree.run0,Tree.run,hat,t1',hr,Option.bind_some,beq_self_eq_true,Bool.not_true,cnF]
theorem zwb(z:Int):zkh (some v) (p:Int) z (mk (nW c) f)=some (0,⟨mk (nW c) (over f (stA c p) 1 fun _=>z)⟩):=by
 obtain ⟨n1,n2,_⟩:=zv3 g w hp
 obtain ⟨a,b,d,e,k1'⟩:=zDU g w hI hv hp
 have e0:i64.wrap ((full c p).state+0)=((stA c p:Nat):Int):=zz _ _ (by show((pAt c p+19:Nat):Int)+0=((pAt c p+19:Nat):Int);omega) (by omega)
 have w1':zdN ((stA c p:Nat):Int) z (mk (nW c) f)=some (0,⟨mk (nW c) (over f (stA c p) 1 fun _=>z)⟩):=zlK (by omega) (by omega) z
 unfold zkh
 simp only[Tree.run0,Tree.run,k1',Option.bind_some,beq_self_eq_true,Bool.not_true,cnF,e0,w1']
end
section
variable {f:Nat->Int} (hI:InvC c f) {d:zT} (hd:zyf c d) {p:Nat} (hp:p<nP c)
include hI hd hp
theorem zDi:zqN (some d) (some ⟨mk (nW c) f⟩) [(p:Int)]=some 0:=by
 have hF:=g.frames
 have e:((c.frames.toNat:Nat):Int)=c.frames:=by omega
 have k1':zdH (some ⟨mk (nW c) f⟩)=some ((c.frames.toNat:Nat):Int):=zfa hI.w.u c.frames.toNat (by omega)
 have e1:i64.wrap ((0:Int)+1)=1:=rfl
 unfold zqN zzJ
 simp only[Tree.run,Option.isNone_some,cnF]
 rw[zo0]
 simp only[zpL,Tree.run,List.length_singleton,show decide ((0:Int)<((1:Nat):Int))=true from rfl,show zN 0 1=true from rfl,cnT,show zw [(p:Int)] (0:Int).toNat=(p:Int)from rfl,decide_eq_false (show ¬ (p:Int)<0 by omega),Option.isSome_some,Option.getD_some,hd.at_.1,decide_eq_false (show ¬ (p:Int)>=(nP c:Int)by omega),cnF,e1]
 rw[zo0]
 simp only[zpL,Tree.run,List.length_singleton,show decide ((1:Int)<((1:Nat):Int))=false from rfl,cnF,k1',Option.bind_some,Option.isSome_some,Option.getD_some,hd.frames,e,cnT,beq_self_eq_true,Bool.not_true]
theorem zN7:zm6 (some d) (p:Int) (mk (nW c) f)=some ((ze1 c p f).1,0,⟨mk (nW c) (ze1 c p f).2⟩):=by
 obtain ⟨n1,n2,_⟩:=zv3 g w hp
 obtain ⟨_,_,o1,_⟩:=zg3 g hp
 obtain ⟨u1,u2⟩:=hI.w.u (stA c p+4)
 have k1':=zDi g w hI hd hp
 have r1':zey (some ⟨mk (nW c) f⟩) ((stA c p+4:Nat):Int)=some (f (stA c p+4),0):=zj6 (by omega) (by omega)
 have q1:IntKind.u64.wrap (f (stA c p+4))=f (stA c p+4):=by simp[IntKind.wrap,IntKind.bits,IntKind.signed];omega
 have q2:IntKind.u64.wrap (P c p).outputs=(P c p).outputs:=by simp[IntKind.wrap,IntKind.bits,IntKind.signed];omega
 unfold zm6 ze1
 simp only[Tree.run0,Tree.run,k1',Option.bind_some,beq_self_eq_true,Bool.not_true,cnF,Option.isSome_some,Option.getD_some,cnT,hd.at_.1,hd.outs.1,zn hp,tnC,hd.at_.2 p hp,hd.outs.2 p hp,r1',q1,q2]
 by_cases h:f (stA c p+4)>=(P c p).outputs
 . rw[decide_eq_true h,if_pos h];rfl
 . have q3:u32.wrap (f (stA c p+4)+1)=f (stA c p+4)+1:=zbQ (by omega) (by omega)
   have w1':zdN ((stA c p+4:Nat):Int) (f (stA c p+4)+1) (mk (nW c) f)=some _:=zlK (by omega) (by omega) _
   rw[decide_eq_false h,if_neg h,q3]
   simp only[cnF,w1',Option.bind_some]
omit hI hp in
theorem in_v(p e:Int){i:Int}(hi:0<=i/\i<4294967296):zqB (some d) p e i=some (inF d.feeds p e i):=by
 unfold zqB inF
 simp only[Tree.run0,Tree.run,Option.isNone_some,cnF,Option.isSome_some,cnT,Option.getD_some]
 obtain ⟨r,h1,h2⟩:=zDm (q:=fun x:zR=>(p==x.partition)&&((e==x.epoch)&&true)) d.feeds
 rw[h1]
 have hl:(r.getD []).length<4611686018427387904:=by
  cases r with
  | none=>show 0<_;omega
  | some y=>
   obtain ⟨k,hk⟩:=h2 y rfl
   exact hd.words _ hk
 have q1:IntKind.u64.wrap i=i:=by simp[IntKind.wrap,IntKind.bits,IntKind.signed];omega
 have q2:IntKind.u64.wrap ((r.getD []).length:Int)=((r.getD []).length:Int):=by simp[IntKind.wrap,IntKind.bits,IntKind.signed];omega
 simp only[Option.bind_some,q1,q2]
 by_cases h:i>=((r.getD []).length:Int)
 . rw[decide_eq_true h,if_pos h];rfl
 . rw[decide_eq_false h,if_neg h,cnF,zbA hi.1 (by omega)];rfl
end
end
theorem zuB{c:za}{p:Nat}{r a:Int}{i:Nat}(h:zfr c p r a i=none) : ∀ {n:Nat},i<=n->zfr c p r a n=none
 | 0,hn=>by
  obtain rfl:i=0:=by omega
  exact h
 | n+1,hn=>by
  by_cases e:i=n+1
  . subst e;exact h
  . unfold zfr
    rw[zuB h (show i<=n by omega)];rfl
theorem zEV{f:Nat->Int}(hf:U32 f)(l:List Int)(j:Nat):0<=zw (l.map fun z=>f z.toNat) j/\zw (l.map fun z=>f z.toNat) j<4294967296:=by
 by_cases h:j<l.length
 . have:zw (l.map fun z=>f z.toNat) j=f (l[j]).toNat:=by simp[zw,List.getD,h]
   rw[this];exact hf _
 . have:zw (l.map fun z=>f z.toNat) j=0:=by simp[zw,List.getD,h]
   rw[this];omega
theorem zhl{α:Type}(xs:List α){i:Nat}(h:i<xs.length){y:α}(hy:y=xs[i]):xs.take i++[y]=xs.take (i+1):=by
 subst hy;simp
theorem rgc(n b:Int)(h:decide (0<=n/\n<=b)=true):0<=n/\n<=b:=of_decide_eq_true h
theorem zmo(j:Nat):0<=zw [] j/\zw [] j<4294967296:=⟨Int.le_refl _,by show(0:Int)<_;omega⟩
theorem zC7{f:Nat->Int}(hf:U32 f){h W:Nat}(hW:W<=16):(zbk f h W).length<=16/\∀ j,0<=zw (zbk f h W) j/\zw (zbk f h W) j<4294967296:=by
 unfold zbk
 cases (List.range (h+W)).any fun i=>!(f i==0)with
 | false=>exact⟨by show 0<=16;omega,zmo⟩
 | true=>
  cases hb:zfb f h W with
  | false=>exact⟨by show 0<=16;omega,zmo⟩
  | true=>
   unfold zfb zeo at hb
   simp only[Bool.and_eq_true,decide_eq_true_eq]at hb
   simp only[cnT,zP]
   refine⟨by omega,fun j=>?_⟩
   by_cases hj:j<(f (h-1)).toNat
   . rw[zbg hj];exact hf _
   . rw[zAJ (by omega)];omega
section
variable {c:za} (g:zaA c) (w:zeJ c) {s:zq} {D:zH} {d:zT} {v:zaf} (hs:zpw c s D d v) {f:Nat->Int} (hI:InvC c f) {p:Nat} (hp:p<nP c)
include g w hs
theorem zsd(q:Int)(p:Int):(0<=(zcV c p q).2/\(zcV c p q).2<=2)/\0<=(zcV c p q).1/\(zcV c p q).1<=16:=by
 unfold zcV
 cases h:zbN c p q with
 | none=>exact⟨rgc 1 2 rfl,rgc 0 16 rfl⟩
 | some x=>
  obtain ⟨_,_,k,_,_,_,_,_,hk1,hk⟩:=zbB g w hs.duc h
  obtain ⟨w1,w2⟩:=(g.chan k hk).1.words
  dsimp only
  cases x.source with
  | false=>exact⟨rgc 2 2 rfl,rgc 0 16 rfl⟩
  | true=>rw[hk1,tnC];exact⟨⟨Int.le_refl _,by show(0:Int)<=2;omega⟩,by show 0<=(Ch c k).words;omega,by show(Ch c k).words<=16;omega⟩
theorem zvz(q p:Int)(m:List Int)(h:Nat->Int):0<=(zlo c p q m h).1/\(zlo c p q m h).1<=5:=by
 unfold zlo
 cases zbN c p q with
 | none=>exact rgc 1 5 rfl
 | some x=>
  dsimp only
  cases x.source with
  | false=>exact rgc 2 5 rfl
  | true=>
   dsimp only [cnT]
   split
   . exact rgc 3 5 rfl
   . unfold zBy
     dsimp only
     cases (zdF (Ch c x.channel.toNat) (stW c h x.channel.toNat) m).1 with
     | false=>exact rgc 5 5 rfl
     | true=>exact rgc 0 5 rfl
include hI
theorem zqa (p q:Int):(0<=(zde c p q f).1/\(zde c p q f).1<=6)/\(zde c p q f).2.1.length<=16/\∀ j,0<=zw (zde c p q f).2.1 j/\zw (zde c p q f).2.1 j<4294967296:=by
 unfold zde
 cases h:zbN c p q with
 | none=>exact⟨rgc 1 6 rfl,Nat.zero_le _,zmo⟩
 | some x=>
  obtain ⟨p',q',k,rfl,rfl,hp',hq',rfl,hk1,hk⟩:=zbB g w hs.duc h
  dsimp only
  cases hsrc:(Pt c p' q').source with
  | true=>exact⟨rgc 2 6 rfl,Nat.zero_le _,zmo⟩
  | false=>
   rw[hk1,tnC]
   dsimp only [cnF]
   have hF:=zwi g w hs.duc hI.w
   obtain ⟨hx,_⟩:=g.chan k hk
   obtain ⟨j1,j2,_⟩:=zw5 g w hs.duc hk (ze5 hp' hq' hk1 hsrc)
   have hpt:=zoK g w hs.duc hI.w hk j1
   have hB:=zvp hI.w.u hF hx (hI.w.pt k hk _ j1)
   obtain ⟨w1,w2⟩:=hx.words
   have hu:=zCe hI.w.u (psC c k (zdz c k p' q')) (prt (Ch c k))
   unfold ptW zdS
   rcases hx.kind with h1 | h2
   . rw[if_neg (show ¬ (Ch c k).kind=2 by omega)]
     split
     . exact⟨rgc 6 6 rfl,Nat.zero_le _,zmo⟩
     . refine⟨⟨Int.le_refl _,by show(0:Int)<=6;omega⟩,?_⟩
       exact zC7 hu (show cW (Ch c k)<=16 by unfold cW;omega)
   . rw [if_pos h2]
     obtain ⟨_,_,w3,w4,d1,d2,_,_,_,bS⟩:=zrZ hI.w.u hF hx h2
     rw[bS]at hB
     obtain ⟨m1,m2,_⟩:=zmA hu hB
     split
     . exact⟨rgc 6 6 rfl,Nat.zero_le _,zmo⟩
     . rename_i hl
       refine⟨⟨Int.le_refl _,by show(0:Int)<=6;omega⟩,?_⟩
       generalize ptM (win f (psC c k (zdz c k p' q')) (prt (Ch c k))) (cW (Ch c k)) (cD (Ch c k))=l at *
       have hm:zW l 0 ∈ l:=by
        have:zW l 0=l[0]:=by simp[zW,List.getD,show 0<l.length by omega]
        rw[this];exact List.getElem_mem _
       obtain ⟨a1,a2,a3⟩:=m1 _ hm
       exact⟨by show(zW l 0).length<=16;omega,a3⟩
include hp
theorem zr7{r a:Int}(hr:0<=r/\r<=7)(ha:0<=a/\a<4294967296){n:Nat}(hn:n<=100)(e:Int)(x:zB) :
 zpm a (n:Int) r (some s) (p:Int) e x (mk (nW c) f)=some (match zfr c p r a n with | some l=>(l,true,⟨some s,some ⟨mk (nW c) f⟩,(p:Int),e,x⟩) | none=>([],false,⟨some s,some ⟨mk (nW c) f⟩,(p:Int),e,x⟩)):=by
 have hat:zm (lay c).partitions p=full c p:=(zqh hp).trans (if_pos hp)
 have hpl:(lay c).partitions.length=nP c:=ziX c _
 have key : ∀ m i,i+m=n->∀ l,zfr c p r a i=some l->zvL a (n:Int) r (some s) (p:Int) e x (mk (nW c) f) (.l0 (i:Int) l)=some (match zfr c p r a n with | some l=>(l,true,⟨some s,some ⟨mk (nW c) f⟩,(p:Int),e,x⟩) | none=>([],false,⟨some s,some ⟨mk (nW c) f⟩,(p:Int),e,x⟩)):=by
  intro m
  induction m with
  | zero=>
   intro i hi l hl
   obtain rfl:i=n:=by omega
   rw[hl,zsI]
   simp only[zuS,z9 (Nat.le_refl _),cnF,Tree.run]
  | succ m ih=>
   intro i hi l hl
   have hin:i<n:=by omega
   obtain ⟨hll,_⟩:=zit g w hp hl
   have e1:i64.wrap a=a:=zal _ (by omega) (by omega)
   have e2:i64.wrap (a+(i:Int))=a+(i:Int):=zal _ (by omega) (by omega)
   have k:=zGs g w hI hp hr (a:=a+(i:Int)) (by omega)
   have hs1:zfr c p r a (i+1)=(adr c p r (a+(i:Int))).map fun z=>l++[z]:=by
    show(zfr c p r a i).bind _=_
    rw[hl];rfl
   rw[zsI]
   simp only[zuS,zY hin,cnT,Option.isSome_some,Option.getD_some,hs.lay,hpl,zn hp,tnC,hat,e1,e2,Tree.run]
   cases hq:adr c p r (a+(i:Int))with
   | some z=>
    rw[hq]at k hs1
    have k1':zia (some ⟨mk (nW c) f⟩) (full c p).root (a+(i:Int)) r=some (z,0):=k
    simp only[k1',Option.bind_some,beq_self_eq_true,Bool.not_true,cnF,List.length_singleton,za0 (show(l.length+1)*8<=140737488355328 by omega),zi i (show i<4611686018427387904 by omega)]
    exact ih (i+1) (by omega) _ hs1
   | none=>
    rw[hq]at k hs1
    obtain ⟨y,er,h0,k⟩:=k
    have k1':zia (some ⟨mk (nW c) f⟩) (full c p).root (a+(i:Int)) r=some (y,er):=k
    have hb:(er==0)=false:=by simpa using h0
    simp only[k1',Option.bind_some,hb,Bool.not_false,cnT]
    rw[zuB (i:=i+1) hs1 (by omega)]
 unfold zpm zEO
 exact key n 0 (Nat.zero_add _) [] rfl
theorem zD3(e:Int){x:zB}(hx:zyd x):zsQ (some s) (p:Int) e x (mk (nW c) f)=some (⟨(zfR c p x f).1,0,0⟩,0,⟨some s,some ⟨mk (nW c) (zfR c p x f).2⟩,(p:Int),e,x⟩):=by
 obtain ⟨r1,r2⟩:=zsd g w hs x.regs.e1 p
 have e1:i64.wrap x.regs.e1=x.regs.e1:=zal _ (by have:=hx.e1;omega) (by have:=hx.e1;omega)
 have e3:i64.wrap x.regs.e3=x.regs.e3:=zal _ (by have:=hx.e3;omega) (by have:=hx.e3;omega)
 have i1:zN 1 16=true:=rfl
 have i2:zN 2 16=true:=rfl
 have i3:zN 3 16=true:=rfl
 have m1':zpl (some D) (p:Int) x.regs.e1=some _:=zBt g w hs.duc p x.regs.e1
 unfold zsQ zEC zfR
 simp only[Tree.run,i1,i2,i3,cnT,Option.isSome_some,Option.getD_some,hs.ducts,e1,e3,m1',Option.bind_some]
 by_cases h0:(zcV c p x.regs.e1).2=0
 . rw [if_pos h0,h0]
   simp only[beq_self_eq_true,Bool.not_true,cnF]
   by_cases h3:x.regs.e3=0 ∨ x.regs.e3>(zcV c p x.regs.e1).1
   . rw[if_pos h3]
     by_cases h4:x.regs.e3=0
     . rw[h4]
       simp only[beq_self_eq_true,cnT,zeY (n:=3) (by omega)]
     . have hb:(x.regs.e3==0)=false:=by simpa using h4
       rw[hb,decide_eq_true (show x.regs.e3>(zcV c p x.regs.e1).1 by omega)]
       simp only[cnF,cnT,zeY (n:=3) (by omega)]
   . rw[if_neg h3]
     have hb:(x.regs.e3==0)=false:=by simpa using fun h=>h3 (.inl h)
     rw[hb,decide_eq_false (show ¬ x.regs.e3>(zcV c p x.regs.e1).1 from fun h=>h3 (.inr h))]
     obtain ⟨n,hn⟩ : ∃ n:Nat,x.regs.e3=(n:Int):=⟨x.regs.e3.toNat,by have:=hx.e3;omega⟩
     have hn16:n<=16:=by omega
     have k1':=zr7 g w hs hI hp (r:=1) (by omega) hx.e2 (n:=n) (by omega) e x
     rw[hn,tnC]
     cases hl:zfr c p 1 x.regs.e2 n with
     | none=>
      rw[hl]at k1'
      simp only[cnF,k1',Option.bind_some,Bool.not_false,cnT,Option.getD_some,zeY (n:=4) (by omega)]
     | some l=>
      rw[hl]at k1'
      simp only[cnF,k1',Option.bind_some,Bool.not_true]
      obtain ⟨l1,l2⟩:=zit g w hp hl
      have lp:=zK (n:=l.length) (f:=fun i (m:List Int)=>zsx (some s) (p:Int) e x (mk (nW c) f) (.l2 (l,true,⟨some s,some ⟨mk (nW c) f⟩,(p:Int),e,x⟩) (i:Int) m)) (S:=fun i=>(l.map fun z=>f z.toNat).take i) (fun i hi=>by
       have hat:zw l i=l[i]:=by simp[zw,List.getD,hi]
       obtain ⟨b,hb⟩:=l2 l[i] (List.getElem_mem _)
       obtain ⟨y,_,hy,hy2,_⟩:=ztj g w hp hb
       have hN:=(zih g w).2
       have q1':zey (some ⟨mk (nW c) f⟩) (y:Int)=some (f y,0):=zj6 (by omega) hy2
       have hm:i<(l.map fun z=>f z.toNat).length:=by rw[List.length_map];exact hi
       have ht:f y=(l.map fun z=>f z.toNat)[i]:=by rw[List.getElem_map,hy,tnC]
       rw[zsy]
       simp only[zuL,zY hi,zn hi,cnT,Option.getD_some,tnC,hat,hy,q1',Option.bind_some,List.length_take,List.length_singleton,za0 (show(min i (l.map fun z=>f z.toNat).length+1)*4<=140737488355328 by rw[List.length_map];omega),zhl (l.map fun z=>f z.toNat) hm ht,zi i (show i<4611686018427387904 by omega),Tree.run])
      refine Eq.trans (show _=zsx (some s) (p:Int) e x (mk (nW c) f) (.l2 (l,true,⟨some s,some ⟨mk (nW c) f⟩,(p:Int),e,x⟩) ((0:Nat):Int) ((l.map fun z=>f z.toNat).take 0))from rfl) (lp.trans ?_)
      obtain ⟨q1',_⟩:=zBx g w hs.duc hI.w p x.regs.e1 (zEV hI.w.u l)
      obtain ⟨t1,t2⟩:=zvz g w hs x.regs.e1 p (l.map fun z=>f z.toNat) f
      have htk:(l.map fun z=>f z.toNat).take l.length=l.map fun z=>f z.toNat:=List.take_of_length_le (by rw[List.length_map];exact Nat.le_refl _)
      rw[zsy]
      simp only[zuL,z9 (Nat.le_refl _),cnF,Option.isSome_some,Option.getD_some,cnT,hs.ducts,e1,htk,q1',Option.bind_some,zeY (n:=(zlo c p x.regs.e1 (l.map fun z=>f z.toNat) f).1) ⟨t1,by omega⟩,Tree.run]
 . rw[if_neg h0]
   have hb:((zcV c p x.regs.e1).2==0)=false:=by simpa using h0
   simp only[hb,Bool.not_false,cnT,zeY (n:=(zcV c p x.regs.e1).2) (by omega)]
theorem zD2(e:Int){x:zB}(hx:zyd x):zsR (some s) (p:Int) e x (mk (nW c) f)=some (⟨(ze2 c p x f).1.1,(ze2 c p x f).1.2.1,(ze2 c p x f).1.2.2⟩,0,⟨some s,some ⟨mk (nW c) (ze2 c p x f).2⟩,(p:Int),e,x⟩):=by
 obtain ⟨r1,r2,r3⟩:=zqa g w hs hI p x.regs.e1
 have e1:i64.wrap x.regs.e1=x.regs.e1:=zal _ (by have:=hx.e1;omega) (by have:=hx.e1;omega)
 have i1:zN 1 16=true:=rfl
 have i2:zN 2 16=true:=rfl
 have m1':=zHj g w hs.duc hI.w p x.regs.e1
 unfold zsR zED ze2
 simp only[Tree.run,i1,i2,cnT,Option.isSome_some,Option.getD_some,hs.ducts,e1,m1',Option.bind_some,beq_self_eq_true,Bool.not_true,cnF]
 by_cases h0:(zde c p x.regs.e1 f).1=0
 . rw [if_pos h0,h0]
   simp only[beq_self_eq_true,Bool.not_true,cnF]
   have k1':=zr7 g w hs hI hp (r:=2) (by omega) hx.e2 (n:=(zde c p x.regs.e1 f).2.1.length) (by omega) e x
   cases hl:zfr c p 2 x.regs.e2 (zde c p x.regs.e1 f).2.1.length with
   | none=>
    rw[hl]at k1'
    simp only[k1',Option.bind_some,Bool.not_false,cnT,Option.getD_some,zeY (n:=4) (by omega)]
   | some l=>
    rw[hl]at k1'
    obtain ⟨t1',_⟩:=zCb g w hs.duc hI.w p x.regs.e1
    obtain ⟨l1,l2⟩:=zit g w hp hl
    simp only[k1',Option.bind_some,Bool.not_true,cnF,cnT,Option.isSome_some,Option.getD_some,hs.ducts,t1',beq_self_eq_true]
    generalize hmsg:(zde c p x.regs.e1 f).2.1=msg at *
    generalize (zde c p x.regs.e1 f).2.2=bs at *
    have lp:=zK (n:=l.length) (f:=fun i (m:List Int)=>zsz (some s) (p:Int) e x (mk (nW c) f) (.l0 (0,msg,bs,0,⟨mk (nW c) f⟩) (l,true,⟨some s,some ⟨mk (nW c) f⟩,(p:Int),e,x⟩) (i:Int) m)) (S:=fun i=>mk (nW c) (wrF l msg (zig c p x.regs.e1 f) i)) (fun i hi=>by
     have hat:zw l i=l[i]:=by simp[zw,List.getD,hi]
     obtain ⟨b,hb⟩:=l2 l[i] (List.getElem_mem _)
     obtain ⟨y,_,hy,hy2,_⟩:=ztj g w hp hb
     have hN:=(zih g w).2
     have q1':zdN (y:Int) (zw msg i) (mk (nW c) (wrF l msg (zig c p x.regs.e1 f) i))=some _:=zlK (by omega) (by omega) _
     have hw:wrF l msg (zig c p x.regs.e1 f) (i+1)=over (wrF l msg (zig c p x.regs.e1 f) i) y 1 fun _=>zw msg i:=by
      show over _ (zw l i).toNat 1 _=_
      rw[hat,hy,tnC]
     rw[zsA]
     simp only[zuM,zY hi,zn hi,zn (show i<msg.length by omega),cnT,tnC,hat,hy,q1',Option.bind_some,zi i (show i<4611686018427387904 by omega),Tree.run,hw])
    refine Eq.trans (show _=zsz (some s) (p:Int) e x (mk (nW c) f) (.l0 (0,msg,bs,0,⟨mk (nW c) f⟩) (l,true,⟨some s,some ⟨mk (nW c) f⟩,(p:Int),e,x⟩) ((0:Nat):Int) (mk (nW c) (wrF l msg (zig c p x.regs.e1 f) 0)))from rfl) (lp.trans ?_)
    rw[zsA]
    simp only[zuM,z9 (Nat.le_refl _),cnF,zbQ (n:=(msg.length:Int)) (by omega) (by omega),Tree.run]
 . rw[if_neg h0]
   have hb:((zde c p x.regs.e1 f).1==0)=false:=by simpa using h0
   simp only[hb,Bool.not_false,cnT,zeY (n:=(zde c p x.regs.e1 f).1) (by omega)]
end
section
variable {c:za} (g:zaA c) (w:zeJ c) {s:zq} {D:zH} {d:zT} {v:zaf} (hs:zpw c s D d v) {f:Nat->Int} (hI:InvC c f)
include g w hs hI
theorem zrD:zdH (some ⟨mk (nW c) f⟩)=some c.frames:=by
 have hF:=g.frames
 have k1':zdH (some ⟨mk (nW c) f⟩)=some ((c.frames.toNat:Nat):Int):=zfa hI.w.u c.frames.toNat (by omega)
 rw[k1']
 congr 1
 omega
theorem zuU:zuk (some s) (mk (nW c) f)=some (0,⟨mk (nW c) (zbd c f (nC c))⟩):=by
 have t1':=zJt g w hs.duc hI.w
 unfold zuk
 simp only[Tree.run0,Tree.run,Option.isNone_some,cnF,zrD g w hs hI,Option.bind_some,Option.isSome_some,cnT,Option.getD_some,hs.frames,beq_self_eq_true,Bool.not_true,hs.ducts,t1']
variable {p:Nat} (hp:p<nP c)
include hp
theorem zv4(q:Int):0<=(zkv c p q f).1/\(zkv c p q f).1<=1:=by
 unfold zkv
 cases zbN c p q with
 | none=>exact rgc 1 1 rfl
 | some x=>
  dsimp only
  cases x.source <;> exact⟨Int.le_refl _,by show(0:Int)<=1;omega⟩
theorem zDt:0<=(ze1 c p f).1/\(ze1 c p f).1<=5:=by
 unfold ze1
 split
 . exact rgc 5 5 rfl
 . exact rgc 0 5 rfl
theorem zAl(E:List (zR × List Int))(q e i:Int):0<=(inF E q e i).1/\(inF E q e i).1<=7:=by
 unfold inF
 split
 . split
   . exact rgc 7 7 rfl
   . exact rgc 0 7 rfl
 . exact rgc 7 7 rfl
theorem zzs{e:Int}(he:0<=e/\e<1073741824){k:Nat}(hk:k<8){x:zB}(hx:zyd x) :
 zfn (some s) (p:Int) e (k:Int) x (mk (nW c) f)=some (ztF x (cDo c d.feeds p e k x f).1,cond (Nat.beq k 5&&(cDo c d.feeds p e k x f).1.1==0) x.regs.e1 0,(Nat.beq k 5&&(cDo c d.feeds p e k x f).1.1==0),0,⟨mk (nW c) (cDo c d.feeds p e k x f).2⟩):=by
 have hpl:(lay c).partitions.length=nP c:=ziX c _
 have hP:nP c<=8:=g.few.parts
 have i1:zN 1 16=true:=rfl
 have i2:zN 2 16=true:=rfl
 have i3:zN 3 16=true:=rfl
 have e1:i64.wrap x.regs.e1=x.regs.e1:=zal _ (by have:=hx.e1;omega) (by have:=hx.e1;omega)
 have hwr:zpf (some s) (p:Int) (k:Int)=some 0:=by
  unfold zpf
  simp only[Tree.run0,Tree.run,decide_eq_false (show ¬ (p:Int)<0 by omega),cnF,Option.isSome_some,cnT,Option.getD_some,hs.lay,hpl,decide_eq_false (show ¬ (p:Int)>=(nP c:Int)by omega),decide_eq_false (show ¬ (k:Int)<0 by omega),decide_eq_false (show ¬ (k:Int)>=8 by omega)]
 have hl : ∀ (a:Int) (b:Bool) (m:List Int) (t1 t2 t3:Int),zvC (some s) (p:Int) e (k:Int) x (mk (nW c) f) (.l31 a b m t1 t2 t3)=some (ztF x (t1,t2,t3),a,b,0,⟨m⟩):=fun a b m t1 t2 t3=>by
  rw[zBE]
  simp only[zzb,i1,i2,i3,cnT,Tree.run]
  rfl
 unfold zfn zEe
 simp only[Tree.run,Option.isNone_some,cnF,zrD g w hs hI,Option.bind_some,Option.isSome_some,cnT,Option.getD_some,hs.frames,beq_self_eq_true,Bool.not_true,hwr,decide_eq_false (show ¬ e<0 by omega),decide_eq_false (show ¬ e>=1073741824 by omega),zn hk]
 rcases (show k=0 ∨ k=1 ∨ k=2 ∨ k=3 ∨ k=4 ∨ k=5 ∨ k=6 ∨ k=7 by omega)with rfl | rfl | rfl | rfl | rfl | rfl | rfl | rfl
 . have y1':zsP (some s) (p:Int) e x (mk (nW c) f)=some (⟨0,0,0⟩,0,⟨some s,some ⟨mk (nW c) (over f (stA c p) 1 fun _=>1)⟩,(p:Int),e,x⟩):=by
    unfold zsP zv1
    simp only[Tree.run0,Tree.run,Option.isSome_some,cnT,Option.getD_some,hs.wards,zwb g w hI hs.ward hp,Option.bind_some,zeY (n:=0) (by omega)]
   simp only[show Nat.beq ((0:Nat):Int).toNat 0=true from rfl,cnT,cnF,y1',Option.bind_some,beq_self_eq_true,Bool.not_true,Option.getD_some,hl,show(((0:Nat):Int)==5)=false from rfl,i1]
   rfl
 . have y1':=zD3 g w hs hI hp e hx
   simp only[show Nat.beq ((1:Nat):Int).toNat 0=false from rfl,show Nat.beq ((1:Nat):Int).toNat 1=true from rfl,cnT,cnF,y1',Option.bind_some,beq_self_eq_true,Bool.not_true,Option.getD_some,hl,show(((1:Nat):Int)==5)=false from rfl,i1]
   rfl
 . have y1':=zD2 g w hs hI hp e hx
   simp only[show Nat.beq ((2:Nat):Int).toNat 0=false from rfl,show Nat.beq ((2:Nat):Int).toNat 1=false from rfl,show Nat.beq ((2:Nat):Int).toNat 2=true from rfl,cnT,cnF,y1',Option.bind_some,beq_self_eq_true,Bool.not_true,Option.getD_some,hl,show(((2:Nat):Int)==5)=false from rfl,i1]
   rfl
 . have y1':zsS (some s) (p:Int) e x (mk (nW c) f)=some (⟨(zkv c p x.regs.e1 f).1,(zkv c p x.regs.e1 f).2.1,(zkv c p x.regs.e1 f).2.2⟩,0,⟨some s,some ⟨mk (nW c) f⟩,(p:Int),e,x⟩):=by
    obtain ⟨t1,t2⟩:=zv4 g w hs hI hp x.regs.e1
    unfold zsS
    simp only[Tree.run0,Tree.run,Option.isSome_some,cnT,Option.getD_some,i1,hs.ducts,e1,zBV g w hs.duc hI.w p x.regs.e1,Option.bind_some,zbQ t1 (show(zkv c p x.regs.e1 f).1<4294967296 by omega)]
   simp only[show Nat.beq ((3:Nat):Int).toNat 0=false from rfl,show Nat.beq ((3:Nat):Int).toNat 1=false from rfl,show Nat.beq ((3:Nat):Int).toNat 2=false from rfl,show Nat.beq ((3:Nat):Int).toNat 3=true from rfl,cnT,cnF,y1',Option.bind_some,beq_self_eq_true,Bool.not_true,Option.getD_some,hl,show(((3:Nat):Int)==5)=false from rfl,i1]
   rfl
 . have y1':zsT (some s) (p:Int) e x (mk (nW c) f)=some (⟨(inF d.feeds p e x.regs.e1).1,(inF d.feeds p e x.regs.e1).2,0⟩,0,⟨some s,some ⟨mk (nW c) f⟩,(p:Int),e,x⟩):=by
    obtain ⟨t1,t2⟩:=zAl g w hs hI hp d.feeds p e x.regs.e1
    unfold zsT
    simp only[Tree.run0,Tree.run,Option.isSome_some,cnT,Option.getD_some,i1,hs.devices,in_v g w hs.dev p e hx.e1,Option.bind_some,zbQ t1 (show(inF d.feeds p e x.regs.e1).1<4294967296 by omega)]
   simp only[show Nat.beq ((4:Nat):Int).toNat 0=false from rfl,show Nat.beq ((4:Nat):Int).toNat 1=false from rfl,show Nat.beq ((4:Nat):Int).toNat 2=false from rfl,show Nat.beq ((4:Nat):Int).toNat 3=false from rfl,show Nat.beq ((4:Nat):Int).toNat 4=true from rfl,cnT,cnF,y1',Option.bind_some,beq_self_eq_true,Bool.not_true,Option.getD_some,hl,show(((4:Nat):Int)==5)=false from rfl,i1]
   rfl
 . have y1':zsU (some s) (p:Int) e x (mk (nW c) f)=some (⟨(ze1 c p f).1,0,0⟩,0,⟨some s,some ⟨mk (nW c) (ze1 c p f).2⟩,(p:Int),e,x⟩):=by
    obtain ⟨t1,t2⟩:=zDt g w hs hI hp
    unfold zsU
    simp only[Tree.run0,Tree.run,Option.isSome_some,cnT,Option.getD_some,hs.devices,zN7 g w hI hs.dev hp,Option.bind_some,zeY (n:=(ze1 c p f).1) (by omega)]
   simp only[show Nat.beq ((5:Nat):Int).toNat 0=false from rfl,show Nat.beq ((5:Nat):Int).toNat 1=false from rfl,show Nat.beq ((5:Nat):Int).toNat 2=false from rfl,show Nat.beq ((5:Nat):Int).toNat 3=false from rfl,show Nat.beq ((5:Nat):Int).toNat 4=false from rfl,show Nat.beq ((5:Nat):Int).toNat 5=true from rfl,cnT,cnF,y1',Option.bind_some,beq_self_eq_true,Bool.not_true,Option.getD_some,hl,show(((5:Nat):Int)==5)=true from rfl,i1]
   by_cases h0:(ze1 c p f).1=0
   . have hc:(cDo c d.feeds p e 5 x f).1=(0,0,0):=by
      show((ze1 c p f).1,0,0)=_
      rw[h0]
     rw[h0,hc];rfl
   . have hb:((ze1 c p f).1==0)=false:=by simpa using h0
     have hc:((cDo c d.feeds p e 5 x f).1.1==0)=false:=hb
     rw[hb,hc];rfl
 . have y1':zfd (some s) (p:Int) e x (mk (nW c) f)=(⟨0,(p:Int),e⟩,0,⟨some s,some ⟨mk (nW c) f⟩,(p:Int),e,x⟩):=by
    unfold zfd
    rw[zbQ (n:=(p:Int)) (by omega) (by omega),zbQ he.1 (by omega)]
   simp only[show Nat.beq ((6:Nat):Int).toNat 0=false from rfl,show Nat.beq ((6:Nat):Int).toNat 1=false from rfl,show Nat.beq ((6:Nat):Int).toNat 2=false from rfl,show Nat.beq ((6:Nat):Int).toNat 3=false from rfl,show Nat.beq ((6:Nat):Int).toNat 4=false from rfl,show Nat.beq ((6:Nat):Int).toNat 5=false from rfl,show Nat.beq ((6:Nat):Int).toNat 6=true from rfl,cnT,cnF,y1',Option.bind_some,beq_self_eq_true,Bool.not_true,Option.getD_some,hl,show(((6:Nat):Int)==5)=false from rfl,i1]
   rfl
 . have y1':zsV (some s) (p:Int) e x (mk (nW c) f)=some (⟨0,0,0⟩,0,⟨some s,some ⟨mk (nW c) (over f (stA c p) 1 fun _=>3)⟩,(p:Int),e,x⟩):=by
    unfold zsV zqC
    simp only[Tree.run0,Tree.run,Option.isSome_some,cnT,Option.getD_some,hs.wards,zwb g w hI hs.ward hp,Option.bind_some,zeY (n:=0) (by omega)]
   simp only[show Nat.beq ((7:Nat):Int).toNat 0=false from rfl,show Nat.beq ((7:Nat):Int).toNat 1=false from rfl,show Nat.beq ((7:Nat):Int).toNat 2=false from rfl,show Nat.beq ((7:Nat):Int).toNat 3=false from rfl,show Nat.beq ((7:Nat):Int).toNat 4=false from rfl,show Nat.beq ((7:Nat):Int).toNat 5=false from rfl,show Nat.beq ((7:Nat):Int).toNat 6=false from rfl,show Nat.beq ((7:Nat):Int).toNat 7=true from rfl,cnT,cnF,y1',Option.bind_some,beq_self_eq_true,Bool.not_true,Option.getD_some,hl,show(((7:Nat):Int)==5)=false from rfl,i1]
   rfl
end
end Go.Proofs.YtgajeebphoiphaaGreatDoor
end
