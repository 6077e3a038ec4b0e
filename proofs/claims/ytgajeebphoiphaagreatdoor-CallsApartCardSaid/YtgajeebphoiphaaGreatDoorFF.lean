import Derived.Test.YtgajeebphoiphaaGreatDoorDA
set_option linter.unusedVariables false
set_option linter.unusedSimpArgs false
set_option linter.unusedSectionVars false
noncomputable section
open Go.IntKind (i64 u32)
namespace Go.Proofs.YtgajeebphoiphaaGreatDoor
open Go.RowKit
def zbL(h n:Nat)(hd g:Nat->Int)(i:Nat):Int:=if i<h then hd i else if i-h<n then g (i-h)else 0
def hd2(n:Nat)(i:Nat):Int:=if i=0 then 1 else(n:Int)
def hd3(n:Nat)(i:Nat):Int:=if i=2 then(n:Int)else 1
theorem zzp{K:Nat}{q:Nat->Bool}(h : ∀ i,i<K->q i=false):((List.range K).any q)=false:=any_f.2 h
theorem zo6{h W n:Nat}(h2:h=2 ∨ h=3)(hn:1<=n)(hnW:n<=W)(hd g:Nat->Int)(e0:hd 0=1)(e1:h=3->hd 1<=1)(e2:hd (h-1)=(n:Int)):zbP (zbL h n hd g) h W=true:=by
 have l0:zbL h n hd g 0=1:=by unfold zbL;rw[if_pos (by omega)];exact e0
 have l2:zbL h n hd g (h-1)=(n:Int):=by unfold zbL;rw[if_pos (by omega)];exact e2
 have lz : ∀ i,h+n<=i->zbL h n hd g i=0:=fun i hi=>by unfold zbL;rw[if_neg (by omega),if_neg (by omega)]
 have hm:zet (zbL h n hd g) h W=true:=by
  unfold zet
  rw[l2,decide_eq_true (show(1:Int)<=(n:Int)by omega),decide_eq_true (show(n:Int)<=(W:Int)by omega),tnC,zzp fun i hi=>?_]
  . rfl
  . rw[lz _ (by omega)];rfl
 unfold zbP
 rw[hm,l0]
 rcases h2 with rfl | rfl
 . simp
 . have:zbL 3 n hd g 1<=1:=by
    have:=e1 rfl
    unfold zbL;rw[if_pos (by omega)];exact this
   simp[this]
theorem zkf{f:Nat->Int}{h W:Nat}(hz : ∀ i,i<h+W->f i=0):zbP f h W=true:=by
 unfold zbP
 rw[zzp fun i hi=>by rw[hz i hi];rfl]
 rfl
theorem zex{f g:Nat->Int}{h W:Nat}(h2:h=2 ∨ h=3)(he : ∀ i,i<h+W->f i=g i):zbP f h W=zbP g h W:=by
 have e1:((List.range (h+W)).any fun i=>!(f i==0))=((List.range (h+W)).any fun i=>!(g i==0)):=zhN fun i hi=>by rw[he i hi]
 have e2:zet f h W=zet g h W:=by
  unfold zet
  rw[he (h-1) (by omega)]
  by_cases c:g (h-1)<=(W:Int)
  . congr 2
    refine zhN fun i hi=>?_
    rw[he _ (by omega)]
  . rw[decide_eq_false c,Bool.and_false,Bool.false_and,Bool.false_and]
 unfold zbP
 rw[e1,e2,he 0 (by omega)]
 by_cases h3:h=3
 . rw[he 1 (by omega)]
 . have:(h==3)=false:=by simpa using h3
   simp[this]
theorem mkTn{x:Nat}(h1:x<=100000){b:Nat}(hb:b<=104):(decide ((x:Int)=(x:Int))&&decide (0<=(x:Int))&&leB ((x:Int).toNat*b) 140737488355328)=true:=mkT (Int.natCast_nonneg x) (by omega) hb
theorem zA8{x:Nat}(h1:x<=100000){b:Nat}(hb:b<=104):(decide True&&decide (0<=(x:Int))&&leB (x*b) 140737488355328)=true:=by
 have:=mkT2 (Int.natCast_nonneg x) (show(x:Int)<=100000 by omega) hb
 rwa [tnC]at this
theorem zNp{W n:Nat}(hW:W<=16)(hnW:n<=W)(g:Nat->Int):zcH (List.set (List.set (List.replicate (2+W) (0:Int)) 0 1) 1 (u32.wrap (n:Int))) 2 (List.take (2+W-2) (mk n g))=mk (2+W) (zbL 2 n (hd2 n) g):=by
 rw[zbR (by omega) (by omega),zqx,zdM (by omega),zdM (by omega),List.take_of_length_le (by rw[zP];omega),zjw (by omega)]
 refine zbO fun i hi=>?_
 unfold zbL hd2
 by_cases h2:i<2
 . rw[if_pos h2,if_neg (by omega)]
   by_cases h0:i=0
   . subst h0;rfl
   . obtain rfl:i=1:=by omega
     rfl
 . rw[if_neg h2]
   by_cases hn:i-2<n
   . rw[if_pos hn,if_pos (by omega)]
   . rw[if_neg hn,if_neg (by omega),if_neg (by omega),if_neg (by omega)]
theorem zNq{W n:Nat}(hW:W<=16)(hnW:n<=W)(g:Nat->Int):zcH (List.set (List.set (List.set (List.replicate (3+W) (0:Int)) 0 1) 1 1) 2 (u32.wrap (n:Int))) 3 (List.take (3+W-3) (mk n g))=mk (3+W) (zbL 3 n (hd3 n) g):=by
 rw[zbR (by omega) (by omega),zqx,zdM (by omega),zdM (by omega),zdM (by omega),List.take_of_length_le (by rw[zP];omega),zjw (by omega)]
 refine zbO fun i hi=>?_
 unfold zbL hd3
 by_cases h2:i<3
 . rw[if_pos h2,if_neg (by omega)]
   by_cases h0:i=2
   . subst h0;rfl
   . rw[if_neg h0,if_neg h0]
     by_cases h1:i=1
     . rw[if_pos h1]
     . rw[if_neg h1,if_pos (by omega)]
 . rw[if_neg h2]
   by_cases hn:i-3<n
   . rw[if_pos hn,if_pos (by omega)]
   . rw[if_neg hn,if_neg (by omega),if_neg (by omega),if_neg (by omega),if_neg (by omega)]
section
variable {F:Nat} {f:Nat->Int} (hf:U32 f) (hF:F<=1024) {a W:Nat} (h1:1<=W) (hW:W<=16)
include hf hF h1 hW
theorem zJZ(ha:a+(2+W)<=16*F){n:Nat}(hn:1<=n)(hnW:n<=W)(g:Nat->Int)(hok:zbP (fun i=>f (a+i)) 2 W=true):znv (a:Int) (W:Int) (mk n g) (mk (16*F) f)=some (0,⟨mk (16*F) (over f a (2+W) (zbL 2 n (hd2 n) g))⟩):=by
 have e:i64.wrap (2+(W:Int))=((2+W:Nat):Int):=zz _ _ (by omega) (by omega)
 have k1':zfR (some ⟨mk (16*F) f⟩) (a:Int) ((2+W:Nat):Int)=some 0:=znJ hf (n:=2+W) hF ha
 have m1':zc3 (some ⟨mk (16*F) f⟩) (a:Int) (W:Int) 2=some _:=zjx hf (by omega) (.inl rfl) hW ha
 rw[hok]at m1'
 have l1':ze3 (a:Int) (mk (2+W) (zbL 2 n (hd2 n) g)) (mk (16*F) f)=some _:=zAT (f:=f) (show 16*F<=100000 by omega) ha (zbL 2 n (hd2 n) g)
 unfold znv
 dsimp only [Tree.run0,Tree.run]
 rw[zvG hf _ h1 hW,e,k1',m1',zP]
 simp only[tnC,List.length_set,List.length_replicate,zNp hW hnW g,l1']
 rw[decide_eq_false (show ¬ (n:Int)<1 by omega),decide_eq_false (show ¬ (n:Int)>(W:Int)by omega),zA8 (x:=2+W) (by omega) (by decide),zbD (x:=0) (Int.le_refl _) (by omega),zbD (x:=1) (by decide) (by omega),inS_iff.2 (show 0<=(2:Int)/\(2:Int)<=((2+W:Nat):Int)/\((2+W:Nat):Int)<=((2+W:Nat):Int)from⟨by omega,by omega,by omega⟩)]
 rfl
end
section
variable {F:Nat} {f:Nat->Int} {a W:Nat} (h1:1<=W) (hW:W<=16)
include h1 hW
theorem zDf{k:Nat}(hk:k<=100)(ps:Nat->Nat)(ha:a<=100000)(hb : ∀ j,j<k->ps j<=100000)(h0 : ∀ i,i<k->a+(2+W)<=ps i ∨ ps i+(3+W)<=a)(hd : ∀ i j,i<k->j<i->ps j+(3+W)<=ps i ∨ ps i+(3+W)<=ps j) :
 zny (a:Int) (W:Int) (mk k fun j=>(ps j:Int))=some true:=by
 have e1:i64.wrap (i64.wrap ((a:Int)+2)+(W:Int))=((a+2+W:Nat):Int):=by
  have e0:i64.wrap ((a:Int)+2)=((a+2:Nat):Int):=zz _ _ (by omega) (by omega)
  rw[e0];exact zz _ _ (by omega) (by omega)
 have e2:i64.wrap (3+(W:Int))=((3+W:Nat):Int):=zz _ _ (by omega) (by omega)
 have step : ∀ i,i<k->zdO (a:Int) (W:Int) (mk k fun j=>(ps j:Int)) (.l0 (i:Int))=zdO (a:Int) (W:Int) (mk k fun j=>(ps j:Int)) (.l0 ((i+1:Nat):Int)):=fun i hi=>by
  have hbi:=hb i hi
  have e3:i64.wrap ((ps i:Int)+((3+W:Nat):Int))=((ps i+(3+W):Nat):Int):=zz _ _ (by omega) (by omega)
  have e4:((mk k fun j=>(ps j:Int)).take i).drop 0=mk i fun j=>(ps j:Int):=by rw[zcA (by omega),List.drop_zero]
  have inner:=zK (n:=i) (f:=fun j (_:Unit)=>zdO (a:Int) (W:Int) (mk k fun j=>(ps j:Int)) (.l4 (ps i:Int) (i:Int) (mk i fun j=>(ps j:Int)) (i:Int) (j:Int))) (S:=fun _=>()) (fun j hj=>by
   have hbj:=hb j (by omega)
   have e5:i64.wrap ((ps j:Int)+((3+W:Nat):Int))=((ps j+(3+W):Nat):Int):=zz _ _ (by omega) (by omega)
   rw[zhq]
   simp only[zjP,zY hj,cnT,zP,zo hj,tnC,zbf hj,e2,e5,e3,zj j (by omega),Tree.run,qY]
   rcases hd i j hi hj with h | h
   . rw[decide_eq_false (show ¬ (ps i:Int)<((ps j+(3+W):Nat):Int)by omega)];rfl
   . rw[decide_eq_false (show ¬ (ps j:Int)<((ps i+(3+W):Nat):Int)by omega)]
     cases decide ((ps i:Int)<((ps j+(3+W):Nat):Int)) <;> rfl)
  have last:zdO (a:Int) (W:Int) (mk k fun j=>(ps j:Int)) (.l4 (ps i:Int) (i:Int) (mk i fun j=>(ps j:Int)) (i:Int) (i:Int))=zdO (a:Int) (W:Int) (mk k fun j=>(ps j:Int)) (.l0 ((i+1:Nat):Int)):=by
   rw[zhq]
   simp only[zjP,z8 (Nat.le_refl i),cnF,zj i (by omega),Tree.run,qY]
  rw[zhq]
  simp only[zjP,zY hi,cnT,zP,zo hi,tnC,zbf hi,e1,e2,e3,zmh (Nat.le_of_lt hi),e4,Tree.run,qY]
  have go:zdO (a:Int) (W:Int) (mk k fun j=>(ps j:Int)) (.l4 (ps i:Int) (i:Int) (mk i fun j=>(ps j:Int)) (i:Int) 0)=zdO (a:Int) (W:Int) (mk k fun j=>(ps j:Int)) (.l0 ((i+1:Nat):Int)):=inner.trans last
  rw[go]
  rcases h0 i hi with h | h
  . rw[decide_eq_false (show ¬ (ps i:Int)<((a+2+W:Nat):Int)by omega)];rfl
  . rw[decide_eq_false (show ¬ (a:Int)<((ps i+(3+W):Nat):Int)by omega)]
    cases decide ((ps i:Int)<((a+2+W:Nat):Int)) <;> rfl
 have all:=zK (n:=k) (f:=fun i (_:Unit)=>zdO (a:Int) (W:Int) (mk k fun j=>(ps j:Int)) (.l0 (i:Int))) (S:=fun _=>()) step
 unfold zny zAq
 dsimp only [Tree.run0,Tree.run]
 refine(show zdO (a:Int) (W:Int) (mk k fun j=>(ps j:Int)) (.l0 0)=_ from all).trans ?_
 rw[zhq]
 simp only[zjP,zP,z8 (Nat.le_refl k),cnF,id,Tree.run,qY]
end
structure zyA(N a s p k:Nat)(ps:Nat->Nat):Prop where
 qn:a+s<=N
 port : ∀ j,j<k->ps j+p<=N
 sp : ∀ i,i<k->a+s<=ps i ∨ ps i+p<=a
 pp : ∀ i j,i<k->j<i->ps j+p<=ps i ∨ ps i+p<=ps j
def zmB(ps:Nat->Nat)(j:Nat)(g:Nat->Int):Nat->Int:=over g (ps j+1) 1 fun _=>0
def zk7(ps:Nat->Nat)(W n:Nat)(m:Nat->Int)(j:Nat)(g:Nat->Int):Nat->Int:=over g (ps j) (3+W) (zbL 3 n (hd3 n) m)
def stN(f:Nat->Int)(h W:Nat):Nat:=(zbn f h W).length
def za5(f:Nat->Int)(op:Nat->(Nat->Int)->Nat->Int):Nat->Nat->Int
 | 0=>f
 | j+1=>op j (za5 f op j)
section
variable {F:Nat} {f:Nat->Int} (hf:U32 f) (hF:F<=1024) {a W:Nat} (h1:1<=W) (hW:W<=16) {k:Nat} (hk1:1<=k) (hk:k<=4) {ps:Nat->Nat} (hA:zyA (16*F) a (2+W) (3+W) k ps)
include hf hF h1 hW hk1 hk hA
theorem zCf(hp : ∀ j,j<k->zbP (fun i=>f (ps j+i)) 3 W=true):znw (some ⟨mk (16*F) f⟩) (a:Int) (W:Int) (mk k fun j=>(ps j:Int))=some 0:=by
 have e2:i64.wrap (2+(W:Int))=((2+W:Nat):Int):=zz _ _ (by omega) (by omega)
 have e3:i64.wrap (3+(W:Int))=((3+W:Nat):Int):=zz _ _ (by omega) (by omega)
 have hst:=hA.qn
 have k1':zfR (some ⟨mk (16*F) f⟩) (a:Int) ((2+W:Nat):Int)=some 0:=znJ hf (n:=2+W) hF hA.qn
 have q1':zny (a:Int) (W:Int) (mk k fun j=>(ps j:Int))=some true:=zDf (a:=a) h1 hW (k:=k) (by omega) ps (by omega) (fun j hj=>by have:=hA.port j hj;omega) hA.sp hA.pp
 have l0:=zK (n:=k) (f:=fun i (_:Unit)=>zgI (some ⟨mk (16*F) f⟩) (a:Int) (W:Int) (mk k fun j=>(ps j:Int)) (.l0 (i:Int))) (S:=fun _=>()) (fun i hi=>by
  have m1':zfR (some ⟨mk (16*F) f⟩) (ps i:Int) ((3+W:Nat):Int)=some 0:=znJ hf (n:=3+W) hF (hA.port i hi)
  rw[zhp]
  simp only[zjO,zP,zY hi,cnT,zo hi,tnC,zbf hi,e3,m1',zj i (by omega),Tree.run,qY]
  rfl)
 have l4:=zK (n:=k) (f:=fun i (_:Unit)=>zgI (some ⟨mk (16*F) f⟩) (a:Int) (W:Int) (mk k fun j=>(ps j:Int)) (.l4 (i:Int))) (S:=fun _=>()) (fun i hi=>by
  have m1':zc3 (some ⟨mk (16*F) f⟩) (ps i:Int) (W:Int) 3=some _:=zjx hf (by omega) (.inr rfl) hW (hA.port i hi)
  rw[hp i hi]at m1'
  rw[zhp]
  simp only[zjO,zP,zY hi,cnT,zo hi,tnC,zbf hi,m1',zj i (by omega),Tree.run,qY]
  rfl)
 unfold znw zAo
 dsimp only [Tree.run0,Tree.run]
 rw[zvG hf _ h1 hW,e2,k1',zP,decide_eq_false (show ¬ (k:Int)<1 by omega),decide_eq_false (show ¬ (k:Int)>4 by omega)]
 show zgI (some ⟨mk (16*F) f⟩) (a:Int) (W:Int) (mk k fun j=>(ps j:Int)) (.l0 0)=_
 refine(show zgI (some ⟨mk (16*F) f⟩) (a:Int) (W:Int) (mk k fun j=>(ps j:Int)) (.l0 0)=_ from l0).trans ?_
 rw[zhp]
 simp only[zjO,zP,z8 (Nat.le_refl k),cnF,q1',cnT,Bool.not_true,Tree.run,qY]
 refine(show zgI (some ⟨mk (16*F) f⟩) (a:Int) (W:Int) (mk k fun j=>(ps j:Int)) (.l4 0)=_ from l4).trans ?_
 rw[zhp]
 simp only[zjO,zP,z8 (Nat.le_refl k),cnF,id,Tree.run,qY]
theorem zJV(hs:zbP (fun i=>f (a+i)) 2 W=true)(hp : ∀ j,j<k->zbP (fun i=>f (ps j+i)) 3 W=true) :
 zkA (a:Int) (W:Int) (mk k fun j=>(ps j:Int)) (mk (16*F) f)=some (0,⟨mk (16*F) (if stN (fun i=>f (a+i)) 2 W=0 then za5 f (zmB ps) k else over (za5 f (zk7 ps W (stN (fun i=>f (a+i)) 2 W) fun i=>f (a+(2+i))) k) a (2+W) fun _=>0)⟩):=by
 have hst:=hA.qn
 have k1':znw (some ⟨mk (16*F) f⟩) (a:Int) (W:Int) (mk k fun j=>(ps j:Int))=some 0:=zCf hf hF h1 hW hk1 hk hA hp
 have m1':zc3 (some ⟨mk (16*F) f⟩) (a:Int) (W:Int) 2=some _:=zjx hf (by omega) (.inl rfl) hW hA.qn
 rw[hs]at m1'
 have m1'':zc3 (some ⟨mk (16*F) f⟩) (a:Int) (W:Int) 2=some (zbn (fun i=>f (a+i)) 2 W,0):=m1'
 have e3:i64.wrap (3+(W:Int))=((3+W:Nat):Int):=zz _ _ (by omega) (by omega)
 have e2:i64.wrap (2+(W:Int))=((2+W:Nat):Int):=zz _ _ (by omega) (by omega)
 unfold zkA zAn
 dsimp only [Tree.run0,Tree.run]
 simp only[k1',m1'',qY,e3]
 show cond (((zbn (fun i=>f (a+i)) 2 W).length:Int)==0) _ _=_
 by_cases h0:stN (fun i=>f (a+i)) 2 W=0
 . have hb:(((zbn (fun i=>f (a+i)) 2 W).length:Int)==0)=true:=by unfold stN at h0;rw[h0];rfl
   have l0:=zK (n:=k) (f:=fun i (xs:List Int)=>zig (a:Int) (W:Int) (mk k fun j=>(ps j:Int)) (mk (16*F) f) (.l0 (i:Int) xs)) (S:=fun i=>mk (16*F) (za5 f (zmB ps) i)) (fun i hi=>by
    have hpi:=hA.port i hi
    have w1':zdP ((ps i+1:Nat):Int) 0 (mk (16*F) (za5 f (zmB ps) i))=some _:=zlS (N:=16*F) (f:=za5 f (zmB ps) i) (a:=ps i+1) (by omega) (by omega) 0
    have e:i64.wrap ((ps i:Int)+1)=((ps i+1:Nat):Int):=zj _ (by omega)
    rw[zho]
    simp only[zjN,zP,zY hi,cnT,zo hi,tnC,zbf hi,e,w1',zj i (by omega),Tree.run,qY]
    rfl)
   rw[hb,cnT,if_pos h0]
   refine(show zig (a:Int) (W:Int) (mk k fun j=>(ps j:Int)) (mk (16*F) f) (.l0 0 (mk (16*F) f))=_ from l0).trans ?_
   rw[zho]
   simp only[zjN,zP,z8 (Nat.le_refl k),cnF,id,Tree.run,qY]
 . have hb:(((zbn (fun i=>f (a+i)) 2 W).length:Int)==0)=false:=by
    unfold stN at h0
    cases hq:(((zbn (fun i=>f (a+i)) 2 W).length:Int)==0)with
    | false=>rfl
    | true=>exact absurd (by simpa using hq) h0
   have hv:zbn (fun i=>f (a+i)) 2 W=mk (stN (fun i=>f (a+i)) 2 W) (fun i=>f (a+(2+i)))/\stN (fun i=>f (a+i)) 2 W<=W:=by
    unfold stN at h0 ⊢
    unfold zbn at h0 ⊢
    cases c1:(List.range (2+W)).any fun i=>!(f (a+i)==0)with
    | false=>rw[c1]at h0;exact absurd rfl h0
    | true=>
     rw[c1]at h0
     cases c2:zfj (fun i=>f (a+i)) 2 W with
     | false=>rw[c2]at h0;exact absurd rfl h0
     | true=>
      simp only[cnT,zP]
      refine⟨by first | rfl | trivial,?_⟩
      unfold zfj at c2
      simp only[qH]at c2
      have c3:=c2.2
      unfold zet at c3
      simp only[qH,qG]at c3
      omega
   have hlen:(zbn (fun i=>f (a+i)) 2 W).length=stN (fun i=>f (a+i)) 2 W:=rfl
   obtain ⟨hv1,hv2⟩:=hv
   generalize stN (fun i=>f (a+i)) 2 W=n at *
   have hl3:=zNq hW hv2 fun i=>f (a+(2+i))
   have l4:=zK (n:=k) (f:=fun i (xs:List Int)=>zig (a:Int) (W:Int) (mk k fun j=>(ps j:Int)) (mk (16*F) f) (.l4 (zbn (fun i=>f (a+i)) 2 W,0) (i:Int) xs)) (S:=fun i=>mk (16*F) (za5 f (zk7 ps W n fun i=>f (a+(2+i))) i)) (fun i hi=>by
    have hpi:=hA.port i hi
    have w1':ze3 (ps i:Int) (mk (3+W) (zbL 3 n (hd3 n) fun i=>f (a+(2+i)))) (mk (16*F) (za5 f (zk7 ps W n fun i=>f (a+(2+i))) i))=some _:=zAT (N:=16*F) (f:=za5 f (zk7 ps W n fun i=>f (a+(2+i))) i) (a:=ps i) (n:=3+W) (by omega) hpi (zbL 3 n (hd3 n) fun i=>f (a+(2+i)))
    rw[zho]
    simp only[zjN,zP,zY hi,cnT,zo hi,tnC,zbf hi,e3,m1'',hv1,List.length_set,List.length_replicate,hl3,w1',zj i (by omega),Tree.run,qY]
    rfl)
   have z1':zkB (a:Int) ((2+W:Nat):Int) 0 (mk (16*F) (za5 f (zk7 ps W n fun i=>f (a+(2+i))) k))=some _:=zHz (N:=16*F) (f:=za5 f (zk7 ps W n fun i=>f (a+(2+i))) k) (a:=a) (n:=2+W) (by omega) hA.qn 0
   rw[hb,cnF,if_neg h0]
   simp only[cnT,tnC,List.length_set,List.length_replicate]
   rw[zA8 (x:=3+W) (by omega) (by decide),zbD (x:=0) (Int.le_refl _) (by omega),zbD (x:=1) (by decide) (by omega),zbD (x:=2) (by decide) (by omega),inS_iff.2 (show 0<=(3:Int)/\(3:Int)<=((3+W:Nat):Int)/\((3+W:Nat):Int)<=((3+W:Nat):Int)from⟨by omega,by omega,by omega⟩)]
   simp only[cnT]
   refine(show zig (a:Int) (W:Int) (mk k fun j=>(ps j:Int)) (mk (16*F) f) (.l4 (zbn (fun i=>f (a+i)) 2 W,0) 0 (mk (16*F) f))=_ from l4).trans ?_
   rw[zho]
   simp only[zjN,zP,z8 (Nat.le_refl k),cnF,e2,z1',cnT,id,Tree.run,qY]
end
def zcs(W:Nat)(m:List Int):Prop:=1<=m.length/\m.length<=W/\∀ j,0<=zt m j/\zt m j<4294967296
def zhG(f:Nat->Int)(W D first i:Nat):List Int:=mk (f ((first+i) % D*(1+W))).toNat fun j=>f ((first+i) % D*(1+W)+(1+j))
def zh9(f:Nat->Int)(W D first many:Nat):List (List Int):=(List.range many).map (zhG f W D first)
theorem zgz(f:Nat->Int)(W D first many:Nat):(zh9 f W D first many).length=many:=by simp[zh9]
theorem zx7(f:Nat->Int)(W D first many:Nat):zh9 f W D first (many+1)=zh9 f W D first many++[zhG f W D first many]:=by simp[zh9,List.range_succ]
theorem zlK{f:Nat->Int}{W D first:Nat}{many:Int}(h:zf5 f W D first many=true){i:Nat}(hi:i<D):okQ f W D first many i=true:=by
 unfold zf5 at h
 rw[Bool.not_eq_true',any_f]at h
 have:=h i hi
 cases hq:okQ f W D first many i with
 | true=>rfl
 | false=>rw[hq]at this;exact absurd this (by decide)
theorem zqN{f:Nat->Int}{W D first:Nat}{many:Int}(h : ∀ i,i<D->okQ f W D first many i=true):zf5 f W D first many=true:=by
 unfold zf5
 rw[Bool.not_eq_true',any_f]
 intro i hi
 rw[h i hi];rfl
theorem okQ_iff{f:Nat->Int}{W D first:Nat}{many:Int}{i:Nat}:okQ f W D first many i=true ↔ (f ((first+i) % D*(1+W))<=(W:Int)/\(∀ j,j<W-(f ((first+i) % D*(1+W))).toNat->f ((first+i) % D*(1+W)+(1+(f ((first+i) % D*(1+W))).toNat+j))=0))/\((i:Int)<many ↔ f ((first+i) % D*(1+W))>0):=by
 unfold okQ zn6
 rw[qH,qH,qG,Bool.not_eq_true',any_f,beq_iff_eq,decide_eq_decide]
 constructor
 . rintro ⟨⟨h1,h2⟩,h3⟩
   refine⟨⟨h1,fun j hj=>?_⟩,h3⟩
   have:=h2 j hj
   simpa using this
 . rintro ⟨⟨h1,h2⟩,h3⟩
   refine⟨⟨h1,fun j hj=>?_⟩,h3⟩
   have:=h2 j hj
   simpa using this
theorem zBc{f:Nat->Int}(hf:U32 f){W D first many:Nat}(hm:many<=D)(h:zf5 f W D first (many:Int)=true){i:Nat}(hi:i<many):zcs W (zhG f W D first i):=by
 obtain ⟨⟨h1,_⟩,h3⟩:=okQ_iff.1 (zlK h (show i<D by omega))
 have h4:=h3.1 (by omega)
 refine⟨by unfold zhG;rw[zP];omega,by unfold zhG;rw[zP];omega,fun j=>?_⟩
 unfold zhG
 by_cases hj:j<(f ((first+i) % D*(1+W))).toNat
 . rw[zbf hj];exact hf _
 . rw[zBa (by omega)];omega
theorem zvX{f:Nat->Int}(hf:U32 f){W D first many:Nat}(hm:many<=D)(h:zf5 f W D first (many:Int)=true) : ∀ m ∈ zh9 f W D first many,zcs W m:=fun m hmem=>by
 unfold zh9 at hmem
 obtain ⟨i,hi,rfl⟩:=List.mem_map.1 hmem
 exact zBc hf hm h (qF.1 hi)
section
variable {f:Nat->Int} (hf:U32 f) {W D:Nat} (hW:W<=16) (hD1:1<=D) (hD:D<=8)
include hf hW hD1 hD
theorem zBK{first:Nat}(hfi:first<D){many:Nat}(hm:many<=D)(hr:zf5 f W D first (many:Int)=true):zil ⟨(W:Int),(D:Int)⟩ (mk (D*(1+W)) f) (first:Int) (many:Int)=some (zh9 f W D first many,true):=by
 have eW:zmW ⟨(W:Int),(D:Int)⟩=((1+W:Nat):Int):=by
  show i64.wrap (1+(W:Int))=_
  exact zz _ _ (by omega) (by omega)
 have dD:decide ((D:Int)=0)=false:=decide_eq_false (by omega)
 have ef:i64.wrap (first:Int)=(first:Int):=zam _ (by omega) (by omega)
 have em:i64.wrap (many:Int)=(many:Int):=zam _ (by omega) (by omega)
 have eD:u32.wrap (D:Int)=(D:Int):=zbR (by omega) (by omega)
 have e9 : ∀ (i:Nat) (xs:List (List Int)),i<=100->zgH ⟨(W:Int),(D:Int)⟩ (mk (D*(1+W)) f) (first:Int) (many:Int) (.l27 (i:Int) xs)=zgH ⟨(W:Int),(D:Int)⟩ (mk (D*(1+W)) f) (first:Int) (many:Int) (.l0 ((i+1:Nat):Int) xs):=fun i xs hi=>by
  rw[zkk]
  simp only[zl1,zj i (show i<4611686018427387904 by omega),Tree.run,qY]
 have l0:=zK (n:=D) (f:=fun i (xs:List (List Int))=>zgH ⟨(W:Int),(D:Int)⟩ (mk (D*(1+W)) f) (first:Int) (many:Int) (.l0 (i:Int) xs)) (S:=fun i=>zh9 f W D first (min i many)) (fun i hi=>by
  obtain ⟨⟨g1,g2⟩,g3⟩:=okQ_iff.1 (zlK hr hi)
  have hpl:=zBz hf hW hD1 hD (first:=first) (i:=i)
  have e1:i64.wrap ((first:Int)+(i:Int))=((first+i:Nat):Int):=zz _ _ (by omega) (by omega)
  have e2:i64.wrap ((((first+i) % D:Nat):Int)*((1+W:Nat):Int))=(((first+i) % D*(1+W):Nat):Int):=zz _ _ (Int.natCast_mul _ _).symm (by omega)
  have e4:i64.wrap ((((first+i) % D:Nat):Int)+1)=(((first+i) % D+1:Nat):Int):=zj _ (by have:=Nat.mod_lt (first+i) (show D>0 by omega);omega)
  have e5:i64.wrap ((((first+i) % D+1:Nat):Int)*((1+W:Nat):Int))=(((first+i) % D*(1+W)+(1+W):Nat):Int):=zz _ _ (by rw[← Int.natCast_mul,Nat.add_mul,Nat.one_mul]) (by omega)
  have hms:zhG f W D first i=mk (f ((first+i) % D*(1+W))).toNat fun j=>f ((first+i) % D*(1+W)+(1+j)):=rfl
  generalize hp:(first+i) % D*(1+W)=p at *
  have e6:((mk (D*(1+W)) f).take (p+(1+W))).drop p=mk (1+W) fun j=>f (p+j):=by rw[zcA (by omega),zd4,Nat.add_sub_cancel_left]
  have k1:=zxS (hf.sh p) hW
  have hq:zn6 (fun j=>f (p+j)) W=true:=by
   unfold zn6
   rw[qH,qG,Bool.not_eq_true',any_f]
   refine⟨g1,fun j hj=>?_⟩
   have:f (p+(1+(f p).toNat+j))=0:=g2 j hj
   show(!(f (p+(1+(f p).toNat+j))==0))=false
   rw[this];rfl
  rw[hq]at k1
  have k1':zns (mk (1+W) fun j=>f (p+j))=some (mk (f p).toNat (fun j=>f (p+(1+j))),true):=k1
  have h0:=(hf p).1
  have hlen:decide (((f p).toNat:Int)>0)=decide ((i:Int)<(many:Int)):=by
   rw[show(((f p).toNat:Nat):Int)=f p by omega,decide_eq_decide];exact g3.symm
  rw[zkk]
  simp only[zl1,zY hi,dD,cnT,cnF,ef,em,e1,zzV,eW,e2,e4,e5,tnC,e6,k1',zP,inS_iff.2 (show 0<=(p:Int)/\(p:Int)<=((p+(1+W):Nat):Int)/\((p+(1+W):Nat):Int)<=((D*(1+W):Nat):Int)from⟨by omega,by omega,by omega⟩),hlen,qI,Bool.not_true,e9 i _ (show i<=100 by omega),Tree.run,qY]
  by_cases hm2:i<many
  . rw[decide_eq_true (show(i:Int)<(many:Int)by omega),cnT,qO,zgz,zaZ (show(min i many+1)*24<=140737488355328 by omega),cnT,← hms,Nat.min_eq_left (show i<=many by omega),Nat.min_eq_left (show i+1<=many by omega),zx7]
  . rw[decide_eq_false (show ¬ (i:Int)<(many:Int)by omega),cnF,Nat.min_eq_right (show many<=i by omega),Nat.min_eq_right (show many<=i+1 by omega)])
 unfold zil zAi
 dsimp only [Tree.run0,Tree.run]
 show cond (decide ((many:Int)>u32.wrap (D:Int))) _ (cond (decide ((first:Int)>=u32.wrap (D:Int))) _ _)=_
 rw[eD,decide_eq_false (show ¬ (many:Int)>(D:Int)by omega),cnF,decide_eq_false (show ¬ (first:Int)>=(D:Int)by omega),cnF]
 have e0:zh9 f W D first (min 0 many)=[]:=by rw[Nat.zero_min];rfl
 have l0':zgH ⟨(W:Int),(D:Int)⟩ (mk (D*(1+W)) f) (first:Int) (many:Int) (.l0 0 [])=zgH ⟨(W:Int),(D:Int)⟩ (mk (D*(1+W)) f) (first:Int) (many:Int) (.l0 (D:Int) (zh9 f W D first (min D many))):=by
  have h:=l0
  simp only[e0]at h
  exact h
 rw[l0',zkk]
 simp only[zl1,z8 (qD),cnF,id,Nat.min_eq_right hm,Tree.run,qY]
end
def zeo(h D W first:Nat)(hd:Nat->Int)(ms:List (List Int)):Nat->Nat->Int
 | 0=>fun j=>if j<h then hd j else 0
 | i+1=>over (over (zeo h D W first hd ms i) (h+(first+i) % D*(1+W)) 1 fun _=>((zW ms i).length:Int)) (h+(first+i) % D*(1+W)+1) (zW ms i).length (zt (zW ms i))
theorem ziB{ms:List (List Int)}{i:Nat}(h:i<ms.length):zW ms i ∈ ms:=by
 have:zW ms i=ms[i]:=by simp[zW,List.getD,h]
 rw[this];exact List.getElem_mem h
theorem zjV{h D W first:Nat}{hd:Nat->Int}{ms:List (List Int)}(i:Nat){j:Nat}(hj:j<h):zeo h D W first hd ms i j=hd j:=by
 induction i with
 | zero=>show(if j<h then hd j else 0)=_;rw[if_pos hj]
 | succ i ih=>
  show over (over _ _ _ _) _ _ _ j=_
  rw[zaB (by omega),zaB (by omega),ih]
theorem zDS{D first i t:Nat}(hi:i<D)(ht:t<D)(h:(first+i) % D=(first+t) % D):i=t:=by
 have h1:=Nat.div_add_mod (first+i) D
 have h2:=Nat.div_add_mod (first+t) D
 rw[h]at h1
 rcases Nat.lt_trichotomy ((first+i) / D) ((first+t) / D)with h3 | h3 | h3
 . have h4:D*((first+i) / D+1)<=D*((first+t) / D):=Nat.mul_le_mul_left D h3
   rw[Nat.mul_add,Nat.mul_one]at h4
   omega
 . rw[h3]at h1;omega
 . have h4:D*((first+t) / D+1)<=D*((first+i) / D):=Nat.mul_le_mul_left D h3
   rw[Nat.mul_add,Nat.mul_one]at h4
   omega
theorem zBA{q q' W:Nat}(h:q ≠ q'):q*(1+W)+(1+W)<=q'*(1+W) ∨ q'*(1+W)+(1+W)<=q*(1+W):=by
 rcases Nat.lt_or_gt_of_ne h with h1 | h1
 . left
   have:=Nat.mul_le_mul_right (1+W) h1
   rw[Nat.succ_mul]at this
   exact this
 . right
   have:=Nat.mul_le_mul_right (1+W) h1
   rw[Nat.succ_mul]at this
   exact this
section
variable {h D W first:Nat} {hd:Nat->Int} {ms:List (List Int)}
theorem zqm(hms : ∀ m ∈ ms,zcs W m)(hl:ms.length<=D)(i:Nat)(hi:i<=ms.length){t:Nat}(ht:t<D){j:Nat}(hj:j<1+W) :
 zeo h D W first hd ms i (h+((first+t) % D*(1+W)+j))=if t<i then(if j=0 then((zW ms t).length:Int)else if j-1<(zW ms t).length then zt (zW ms t) (j-1)else 0)else 0:=by
 induction i with
 | zero=>
  rw[if_neg (by omega)]
  show(if h+((first+t) % D*(1+W)+j)<h then _ else _)=_
  rw[if_neg (by omega)]
 | succ i ih=>
  have hm:=hms _ (ziB (show i<ms.length by omega))
  have ih:=ih (by omega)
  show over (over _ _ _ _) _ _ _ _=_
  by_cases hti:t=i
  . subst hti
    rw[if_pos (by omega)]
    by_cases h0:j=0
    . subst h0
      rw[zaB (by omega),if_pos rfl]
      exact zhf (show 0<1 by omega)
    . rw[if_neg h0]
      by_cases h1:j-1<(zW ms t).length
      . rw[if_pos h1,show h+((first+t) % D*(1+W)+j)=h+(first+t) % D*(1+W)+1+(j-1)by omega,zhf h1]
      . rw[if_neg h1,zaB (by omega),zaB (by omega),ih,if_neg (by omega)]
  . have hne:(first+t) % D ≠ (first+i) % D:=fun e=>hti (zDS ht (by omega) e)
    have hpl:=zBA (W:=W) hne
    obtain ⟨m1,m2,_⟩:=hm
    rw[zaB (by omega),zaB (by omega),ih]
    by_cases c:t<i
    . rw[if_pos c,if_pos (show t<i+1 by omega)]
    . rw[if_neg c,if_neg (show ¬ t<i+1 by omega)]
theorem zzW(hhd : ∀ j,j<h->0<=hd j/\hd j<4294967296)(hW:W<=16)(hms : ∀ m ∈ ms,zcs W m)(i:Nat)(hi:i<=ms.length):U32 (zeo h D W first hd ms i):=by
 induction i with
 | zero=>
  intro j
  show 0<=(if j<h then hd j else 0)/\_
  by_cases hj:j<h
  . have:=hhd j hj
    simp only[zeo,if_pos hj];exact this
  . simp only[zeo,if_neg hj];omega
 | succ i ih=>
  obtain ⟨m1,m2,m3⟩:=hms _ (ziB (show i<ms.length by omega))
  refine zeu (zeu (ih (by omega)) fun j hj=>?_) fun j hj=>m3 j
  constructor <;> omega
theorem zvq(hms : ∀ m ∈ ms,zcs W m)(hl:ms.length<=D):zf5 (fun j=>zeo h D W first hd ms ms.length (h+j)) W D first (ms.length:Int)=true:=by
 refine zqN fun i hi=>okQ_iff.2 ?_
 have a0:=zqm (h:=h) (first:=first) (hd:=hd) hms hl ms.length (qD) hi (show 0<1+W by omega)
 rw[Nat.add_zero]at a0
 rw[if_pos rfl]at a0
 simp only[a0]
 by_cases c:i<ms.length
 . obtain ⟨m1,m2,_⟩:=hms _ (ziB c)
   rw[if_pos c]
   refine⟨⟨by omega,fun j hj=>?_⟩,by omega⟩
   rw[tnC]at hj ⊢
   rw[zqm hms hl ms.length (qD) hi (show 1+(zW ms i).length+j<1+W by omega),if_pos c,if_neg (by omega),if_neg (by omega)]
 . rw[if_neg c]
   refine⟨⟨by omega,fun j hj=>?_⟩,by omega⟩
   rw[show(0:Int).toNat=0 from rfl]at hj ⊢
   rw[zqm hms hl ms.length (qD) hi (show 1+0+j<1+W by omega),if_neg c]
end
section
variable {f:Nat->Int} (hf:U32 f) {W D:Nat} (hW1:1<=W) (hW:W<=16) (hD1:1<=D) (hD:D<=8) {N a:Nat} (hN:N<=100000)
include hf hW1 hW hD1 hD hN
theorem zAS{h first:Nat}(hh:h<=3)(hfi:first<D){lost:Int}{ms:List (List Int)}(hms : ∀ m ∈ ms,zcs W m)(hl:ms.length<=D)(hd:Nat->Int)(ha:a+(h+D*(1+W))<=N) :
 ze2 ⟨(W:Int),(D:Int)⟩ (a:Int) ⟨(first:Int),lost,ms⟩ (mk h hd) (mk N f)=some ⟨mk N (over f a (h+D*(1+W)) (zeo h D W first hd ms ms.length))⟩:=by
 obtain ⟨d1,d2⟩:=dw hf hW1 hW hD1 hD hN
 have eW:zmW ⟨(W:Int),(D:Int)⟩=((1+W:Nat):Int):=by
  show i64.wrap (1+(W:Int))=_
  exact zz _ _ (by omega) (by omega)
 have dD:decide ((D:Int)=0)=false:=decide_eq_false (by omega)
 have ef:i64.wrap (first:Int)=(first:Int):=zam _ (by omega) (by omega)
 have eA:=zzo hf hW1 hW hD1 hD hN h hh
 generalize hK:h+D*(1+W)=K at *
 have e0:zcH (List.replicate K (0:Int)) 0 (List.take K (mk h hd))=mk K (zeo h D W first hd ms 0):=by
  rw[List.take_of_length_le (by rw[zP];omega),zqx,zjw (by omega)]
  refine zbO fun i hi=>?_
  show _=if i<h then hd i else 0
  by_cases c:i<h
  . rw[if_pos c,if_pos (by omega)];rfl
  . rw[if_neg c,if_neg (by omega)]
 have l0:=zK (n:=ms.length) (f:=fun i (xs:List Int)=>zm6 ⟨(W:Int),(D:Int)⟩ (a:Int) ⟨(first:Int),lost,ms⟩ (mk h hd) (mk N f) (.l0 (i:Int) xs)) (S:=fun i=>mk K (zeo h D W first hd ms i)) (fun i hi=>by
  obtain ⟨m1,m2,m3⟩:=hms _ (ziB hi)
  have hpl:=zBz hf hW hD1 hD (first:=first) (i:=i)
  have e1:i64.wrap ((first:Int)+(i:Int))=((first+i:Nat):Int):=zz _ _ (by omega) (by omega)
  have e2:i64.wrap ((((first+i) % D:Nat):Int)*((1+W:Nat):Int))=(((first+i) % D*(1+W):Nat):Int):=zz _ _ (Int.natCast_mul _ _).symm (by omega)
  have e3:i64.wrap ((h:Int)+(((first+i) % D*(1+W):Nat):Int))=((h+(first+i) % D*(1+W):Nat):Int):=zz _ _ (by omega) (by omega)
  have e4:i64.wrap (((h+(first+i) % D*(1+W):Nat):Int)+1)=((h+(first+i) % D*(1+W)+1:Nat):Int):=zj _ (by omega)
  have e5:u32.wrap (((zW ms i).length:Nat):Int)=((zW ms i).length:Int):=zbR (by omega) (by omega)
  have hes:zeo h D W first hd ms (i+1)=over (over (zeo h D W first hd ms i) (h+(first+i) % D*(1+W)) 1 fun _=>((zW ms i).length:Int)) (h+(first+i) % D*(1+W)+1) (zW ms i).length (zt (zW ms i)):=rfl
  generalize hp:(first+i) % D*(1+W)=p at *
  have e6:List.set (mk K (zeo h D W first hd ms i)) (h+p) ((zW ms i).length:Int)=mk K (over (zeo h D W first hd ms i) (h+p) 1 fun _=>((zW ms i).length:Int)):=by
   rw[zdM (by omega)]
   refine zbO fun j hj=>?_
   unfold over
   by_cases c:j=h+p
   . rw[if_pos c,if_pos (by omega)]
   . rw[if_neg c,if_neg (by omega)]
  have e7:zcH (mk K (over (zeo h D W first hd ms i) (h+p) 1 fun _=>((zW ms i).length:Int))) (h+p+1) (List.take (K-(h+p+1)) (zW ms i))=mk K (zeo h D W first hd ms (i+1)):=by
   rw[List.take_of_length_le (by omega),show zcH (mk K (over (zeo h D W first hd ms i) (h+p) 1 fun _=>((zW ms i).length:Int))) (h+p+1) (zW ms i)=zcH (mk K (over (zeo h D W first hd ms i) (h+p) 1 fun _=>((zW ms i).length:Int))) (h+p+1) (mk (zW ms i).length (zt (zW ms i)))from congrArg _ (zFp rfl),zjw (by omega),hes]
   rfl
  rw[zpl]
  simp only[zqb,zY hi,cnT,zo hi,tnC,dD,cnF,ef,e1,zzV,eW,e2,zP,e3,e4,e5,zo (show h+p<K by omega),List.length_set,inS_iff.2 (show 0<=((h+p+1:Nat):Int)/\((h+p+1:Nat):Int)<=((K:Nat):Int)/\((K:Nat):Int)<=((K:Nat):Int)from⟨by omega,by omega,by omega⟩),e6,e7,zj i (show i<4611686018427387904 by omega),Tree.run,qY])
 have w1':ze3 (a:Int) (mk K (zeo h D W first hd ms ms.length)) (mk N f)=some _:=zAT (f:=f) hN ha (zeo h D W first hd ms ms.length)
 unfold ze2 zAh
 dsimp only [Tree.run0,Tree.run]
 simp only[zP,eA,tnC,List.length_replicate,e0]
 rw[zA8 (x:=K) (by omega) (by decide),cnT]
 refine(show zm6 ⟨(W:Int),(D:Int)⟩ (a:Int) ⟨(first:Int),lost,ms⟩ (mk h hd) (mk N f) (.l0 0 (mk K (zeo h D W first hd ms 0)))=_ from l0).trans ?_
 rw[zpl]
 simp only[zqb,z8 (qD),cnF,w1',cnT,id,Tree.run,qY]
end
def zfS(D W:Nat)(ms:List (List Int)):Nat->Int:=zeo 1 D W 0 (fun _=>(ms.length:Int)) ms ms.length
def zb6(first:Nat)(ms:List (List Int)):Nat:=if ms.length=0 then 0 else first
def zqH(first:Nat)(lost:Int)(ms:List (List Int))(j:Nat):Int:=if j=0 then(zb6 first ms:Int)else if j=1 then(ms.length:Int)else lost
def zgv(D W first:Nat)(lost:Int)(ms:List (List Int)):Nat->Int:=zeo 3 D W (zb6 first ms) (zqH first lost ms) ms ms.length
section
variable {D W:Nat} {ms:List (List Int)} (hms : ∀ m ∈ ms,zcs W m) (hl:ms.length<=D)
include hms hl
theorem zCm:zfS D W ms 0=(ms.length:Int):=zjV _ (by decide)
theorem zpE:zhw (zfS D W ms) W D=true:=by
 unfold zhw
 rw[zCm hms hl,decide_eq_true (show(ms.length:Int)<=(D:Int)by omega),Bool.true_and]
 exact zvq hms hl
theorem ztv(hD:D<=8)(hW:W<=16):U32 (zfS D W ms):=zzW (fun j hj=>by constructor <;> omega) hW hms _ (qD)
variable {first:Nat} {lost:Int}
theorem zD4:zgv D W first lost ms 0=(zb6 first ms:Int):=zjV _ (by decide)
theorem zD5:zgv D W first lost ms 1=(ms.length:Int):=zjV _ (by decide)
theorem zhY(hfi:first<D):zb6 first ms<D:=by unfold zb6;split <;> omega
theorem zsA(hfi:first<D):zeI (zgv D W first lost ms) W D=true:=by
 have h1:=zhY hms hl hfi
 unfold zeI
 rw[zD4 hms hl,zD5 hms hl,decide_eq_true (show(zb6 first ms:Int)<(D:Int)by omega),decide_eq_true (show(ms.length:Int)<=(D:Int)by omega),Bool.true_and,Bool.true_and,tnC]
 have h2:zf5 (fun i=>zgv D W first lost ms (3+i)) W D (zb6 first ms) (ms.length:Int)=true:=zvq hms hl
 rw[h2,Bool.and_true]
 unfold zb6
 by_cases c:ms.length=0
 . rw[if_pos c];simp
 . rw[decide_eq_true (show(ms.length:Int)>0 by omega)];rfl
theorem zvN(hfi:first<D)(hD:D<=8)(hW:W<=16)(hlo:0<=lost/\lost<4294967296):U32 (zgv D W first lost ms):=zzW (fun j hj=>by
 have h1:=zhY hms hl hfi
 unfold zqH
 split
 . constructor <;> omega
 . split
   . constructor <;> omega
   . exact hlo) hW hms _ (qD)
end
theorem qst_iff{f:Nat->Int}{W D:Nat}:zhw f W D=true ↔ f 0<=(D:Int)/\zf5 (fun i=>f (1+i)) W D 0 (f 0)=true:=by
 unfold zhw;rw[qH,qG]
theorem qpt_iff{f:Nat->Int}{W D:Nat}:zeI f W D=true ↔ f 0<(D:Int)/\f 1<=(D:Int)/\(f 1>0 ∨ f 0=0)/\zf5 (fun i=>f (3+i)) W D (f 0).toNat (f 1)=true:=by
 unfold zeI;rw[qH,qH,qH,Bool.or_eq_true,qG,qG,qG,beq_iff_eq]
def stM(f:Nat->Int)(W D:Nat):List (List Int):=zh9 (fun i=>f (1+i)) W D 0 (f 0).toNat
def ptM(f:Nat->Int)(W D:Nat):List (List Int):=zh9 (fun i=>f (3+i)) W D (f 0).toNat (f 1).toNat
def ptR(f:Nat->Int)(W D:Nat):zU:=⟨f 0,f 2,ptM f W D⟩
section
variable {f:Nat->Int} (hf:U32 f) {W D:Nat}
include hf
theorem zrh(h:zhw f W D=true):(∀ m ∈ stM f W D,zcs W m)/\(stM f W D).length<=D/\((stM f W D).length:Int)=f 0:=by
 obtain ⟨h1,h2⟩:=qst_iff.1 h
 have h0:=(hf 0).1
 have e:(((f 0).toNat:Nat):Int)=f 0:=by omega
 refine⟨zvX (hf.sh 1) (show(f 0).toNat<=D by omega) (by rw[e];exact h2),by unfold stM;rw[zgz];omega,by unfold stM;rw[zgz];omega⟩
theorem zmK(h:zeI f W D=true):(∀ m ∈ ptM f W D,zcs W m)/\(ptM f W D).length<=D/\((ptM f W D).length:Int)=f 1:=by
 obtain ⟨h1,h2,h3,h4⟩:=qpt_iff.1 h
 have h0:=(hf 1).1
 have e:(((f 1).toNat:Nat):Int)=f 1:=by omega
 refine⟨zvX (hf.sh 3) (show(f 1).toNat<=D by omega) (by rw[e];exact h4),by unfold ptM;rw[zgz];omega,by unfold ptM;rw[zgz];omega⟩
end
section
variable {f:Nat->Int} (hf:U32 f) {W D:Nat} (hW1:1<=W) (hW:W<=16) (hD1:1<=D) (hD:D<=8) {N a:Nat} (hN:N<=100000)
include hf hW1 hW hD1 hD hN
theorem zCs(h:Nat)(hh:h<=3)(ha:a+(h+D*(1+W))<=N) :
 zc2 (some ⟨mk N f⟩) (a:Int) (zeO ⟨(W:Int),(D:Int)⟩ (h:Int))=some (mk (h+D*(1+W)) (fun i=>f (a+i)),0):=by
 rw[zzo hf hW1 hW hD1 hD hN h hh]
 exact zro (f:=f) hN ha
theorem zwu(ha:a+(1+D*(1+W))<=N)(hok:zhw (fun i=>f (a+i)) W D=true) :
 zgQ ⟨(W:Int),(D:Int)⟩ (a:Int) (mk N f)=some (⟨0,0,stM (fun i=>f (a+i)) W D⟩,true,⟨mk N f⟩):=by
 obtain ⟨h1,h2⟩:=qst_iff.1 hok
 have h0:=((hf.sh a) 0).1
 have e:((((fun i=>f (a+i)) 0).toNat:Nat):Int)=(fun i=>f (a+i)) 0:=by omega
 have k1':zc2 (some ⟨mk N f⟩) (a:Int) (zeO ⟨(W:Int),(D:Int)⟩ 1)=some (mk (1+D*(1+W)) (fun i=>f (a+i)),0):=zCs hf hW1 hW hD1 hD hN (a:=a) 1 (by omega) ha
 have m1':zil ⟨(W:Int),(D:Int)⟩ (mk (D*(1+W)) fun i=>f (a+(1+i))) 0 ((((fun i=>f (a+i)) 0).toNat:Nat):Int)=some _:=zBK ((hf.sh a).sh 1) hW hD1 hD (first:=0) (by omega) (many:=((fun i=>f (a+i)) 0).toNat) (by have h1':f (a+0)<=(D:Int):=h1;show(f (a+0)).toNat<=D;omega) (by rw[e];exact h2)
 rw[e]at m1'
 have e3:((mk (1+D*(1+W)) fun i=>f (a+i)).take (1+D*(1+W))).drop 1=mk (D*(1+W)) fun i=>f (a+(1+i)):=by rw[zcA (qD),zd4,Nat.add_sub_cancel_left]
 unfold zgQ zAm
 dsimp only [Tree.run0,Tree.run]
 rw[k1',qY,zyq]
 simp only[ztY,zP,tnC,e3,zbf (show 0<1+D*(1+W)by omega),m1',cnT,zbD (x:=0) (n:=1+D*(1+W)) (Int.le_refl _) (by omega),inS_iff.2 (show 0<=(1:Int)/\(1:Int)<=((1+D*(1+W):Nat):Int)/\((1+D*(1+W):Nat):Int)<=((1+D*(1+W):Nat):Int)from⟨by omega,by omega,by omega⟩),Tree.run,qY]
 rfl
theorem zBC(ha:a+(3+D*(1+W))<=N)(hok:zeI (fun i=>f (a+i)) W D=true) :
 zgO ⟨(W:Int),(D:Int)⟩ (a:Int) (mk N f)=some (ptR (fun i=>f (a+i)) W D,true,⟨mk N f⟩):=by
 obtain ⟨h1,h2,h3,h4⟩:=qpt_iff.1 hok
 have h0:=((hf.sh a) 0).1
 have h5:=((hf.sh a) 1).1
 have e:((((fun i=>f (a+i)) 0).toNat:Nat):Int)=(fun i=>f (a+i)) 0:=by omega
 have e':((((fun i=>f (a+i)) 1).toNat:Nat):Int)=(fun i=>f (a+i)) 1:=by omega
 have k1':zc2 (some ⟨mk N f⟩) (a:Int) (zeO ⟨(W:Int),(D:Int)⟩ 3)=some (mk (3+D*(1+W)) (fun i=>f (a+i)),0):=zCs hf hW1 hW hD1 hD hN (a:=a) 3 (by omega) ha
 have m1':zil ⟨(W:Int),(D:Int)⟩ (mk (D*(1+W)) fun i=>f (a+(3+i))) ((((fun i=>f (a+i)) 0).toNat:Nat):Int) ((((fun i=>f (a+i)) 1).toNat:Nat):Int)=some _:=zBK ((hf.sh a).sh 3) hW hD1 hD (first:=((fun i=>f (a+i)) 0).toNat) (by have h1':f (a+0)<(D:Int):=h1;show(f (a+0)).toNat<D;omega) (many:=((fun i=>f (a+i)) 1).toNat) (by have h1':f (a+1)<=(D:Int):=h2;show(f (a+1)).toNat<=D;omega) (by rw[e'];exact h4)
 rw[e,e']at m1'
 have e3:((mk (3+D*(1+W)) fun i=>f (a+i)).take (3+D*(1+W))).drop 3=mk (D*(1+W)) fun i=>f (a+(3+i)):=by rw[zcA (qD),zd4,Nat.add_sub_cancel_left]
 unfold zgO zAg
 dsimp only [Tree.run0,Tree.run]
 rw[k1',qY,zyo]
 simp only[ztW,zP,tnC,e3,zbf (show 0<3+D*(1+W)by omega),zbf (show 1<3+D*(1+W)by omega),zbf (show 2<3+D*(1+W)by omega),m1',cnT,zbD (x:=0) (n:=3+D*(1+W)) (Int.le_refl _) (by omega),zbD (x:=1) (n:=3+D*(1+W)) (by decide) (by omega),zbD (x:=2) (n:=3+D*(1+W)) (by decide) (by omega),inS_iff.2 (show 0<=(3:Int)/\(3:Int)<=((3+D*(1+W):Nat):Int)/\((3+D*(1+W):Nat):Int)<=((3+D*(1+W):Nat):Int)from⟨by omega,by omega,by omega⟩),Tree.run,qY]
 by_cases c:f (a+1)>0
 . rw[decide_eq_true c,cnT];rfl
 . have:f (a+0)=0:=h3.resolve_left c
   rw[decide_eq_false c,cnF];simp only[ptR,ptM,this];rfl
theorem ztw(ha:a+(1+D*(1+W))<=N)(hok:zhw (fun i=>f (a+i)) W D=true) :
 zgP ⟨(W:Int),(D:Int)⟩ (a:Int) (mk N f)=some (⟨0,0,stM (fun i=>f (a+i)) W D⟩,0,⟨mk N f⟩):=by
 have k1':zeD ⟨(W:Int),(D:Int)⟩ (some ⟨mk N f⟩) (a:Int) 1=some true:=zlP hf hW1 hW hD1 hD hN (a:=a) 1 (by omega) ha
 have m1':zgQ ⟨(W:Int),(D:Int)⟩ (a:Int) (mk N f)=some _:=zwu hf hW1 hW hD1 hD hN ha hok
 unfold zgP
 dsimp only [Tree.run0,Tree.run]
 rw[k1',m1'];rfl
theorem zmJ(ha:a+(3+D*(1+W))<=N)(hok:zeI (fun i=>f (a+i)) W D=true) :
 ze1 (a:Int) (W:Int) (D:Int) (mk N f)=some (⟨(W:Int),(D:Int)⟩,ptR (fun i=>f (a+i)) W D,0,⟨mk N f⟩):=by
 have k1':zeD ⟨(W:Int),(D:Int)⟩ (some ⟨mk N f⟩) (a:Int) 3=some true:=zlP hf hW1 hW hD1 hD hN (a:=a) 3 (by omega) ha
 have m1':zgO ⟨(W:Int),(D:Int)⟩ (a:Int) (mk N f)=some _:=zBC hf hW1 hW hD1 hD hN ha hok
 unfold ze1
 dsimp only [Tree.run0,Tree.run]
 rw[zlx hf hW1 hW hD1 hD hN,k1',m1'];rfl
theorem zoK(ha:a+(3+D*(1+W))<=N){first:Nat}(hfi:first<D){lost:Int}{ms:List (List Int)}(hms : ∀ m ∈ ms,zcs W m)(hl:ms.length<=D) :
 zgN ⟨(W:Int),(D:Int)⟩ (a:Int) ⟨(first:Int),lost,ms⟩ (mk N f)=some ⟨mk N (over f a (3+D*(1+W)) (zgv D W first lost ms))⟩:=by
 have hlt:=zhY hms hl hfi
 have k1:=zAS hf hW1 hW hD1 hD hN (a:=a) (h:=3) (by omega) (first:=zb6 first ms) hlt (lost:=lost) hms hl (zqH first lost ms) ha
 have e:mk 3 (zqH first lost ms)=[((zb6 first ms:Nat):Int),u32.wrap (ms.length:Int),lost]:=by
  rw[zbR (by omega) (by omega)];rfl
 rw[e]at k1
 have k1':ze2 ⟨(W:Int),(D:Int)⟩ (a:Int) ⟨((zb6 first ms:Nat):Int),lost,ms⟩ [((zb6 first ms:Nat):Int),u32.wrap (ms.length:Int),lost] (mk N f)=some _:=k1
 have h7:zkj ⟨(W:Int),(D:Int)⟩ (a:Int) ⟨(first:Int),lost,ms⟩ (mk N f) (.l7 ((zb6 first ms:Nat):Int))=some ⟨mk N (over f a (3+D*(1+W)) (zgv D W first lost ms))⟩:=by
  rw[zyn]
  simp only[ztV,k1',cnT,id,Tree.run,qY]
  rfl
 unfold zgN zAe
 dsimp only [Tree.run0,Tree.run]
 show cond ((ms.length:Int)==0) (zkj ⟨(W:Int),(D:Int)⟩ (a:Int) ⟨(first:Int),lost,ms⟩ (mk N f) (.l7 0)) (zkj ⟨(W:Int),(D:Int)⟩ (a:Int) ⟨(first:Int),lost,ms⟩ (mk N f) (.l7 (first:Int)))=_
 unfold zb6 at h7
 by_cases c:ms.length=0
 . rw[if_pos c]at h7
   rw[c];exact h7
 . rw[if_neg c]at h7
   have:((ms.length:Int)==0)=false:=by simpa using c
   rw[this];exact h7
theorem zJL(ha:a+(1+D*(1+W))<=N)(hok:zhw (fun i=>f (a+i)) W D=true){m:List Int}(hm:zcs W m) :
 zkw (a:Int) (W:Int) (D:Int) m (mk N f)=some (if(stM (fun i=>f (a+i)) W D).length=D then(false,0,⟨mk N f⟩)else(true,0,⟨mk N (over f a (1+D*(1+W)) (zfS D W (stM (fun i=>f (a+i)) W D++[m])))⟩)):=by
 obtain ⟨s1,s2,_⟩:=zrh (hf.sh a) hok
 have k1':zgP ⟨(W:Int),(D:Int)⟩ (a:Int) (mk N f)=some _:=ztw hf hW1 hW hD1 hD hN ha hok
 generalize stM (fun i=>f (a+i)) W D=ms at *
 obtain ⟨m1,m2,m3⟩:=hm
 have c1:((m.length:Int)==0)=false:=by
  cases h:((m.length:Int)==0)with
  | false=>rfl
  | true=>exact absurd (by simpa using h) (show ¬ m.length=0 by omega)
 unfold zkw
 dsimp only [Tree.run0,Tree.run]
 rw[zlx hf hW1 hW hD1 hD hN,c1,decide_eq_false (show ¬ (m.length:Int)>(W:Int)by omega),k1']
 by_cases c:ms.length=D
 . rw[if_pos c]
   show cond ((ms.length:Int)==(D:Int)) _ _=_
   rw[c,qI];rfl
 . rw[if_neg c]
   have c2:((ms.length:Int)==(D:Int))=false:=by
    cases h:((ms.length:Int)==(D:Int))with
    | false=>rfl
    | true=>exact absurd (by have:=eq_of_beq h;omega) c
   have hms' : ∀ x ∈ ms++[m],zcs W x:=fun x hx=>by
    rcases List.mem_append.1 hx with h | h
    . exact s1 x h
    . rw[List.mem_singleton.1 h];exact⟨m1,m2,m3⟩
   have hl':(ms++[m]).length<=D:=by rw[List.length_append,qO];omega
   have q1:=zAS hf hW1 hW hD1 hD hN (a:=a) (h:=1) (by omega) (first:=0) (by omega) (lost:=0) hms' hl' (fun _=>((ms++[m]).length:Int)) ha
   have e:mk 1 (fun _=>((ms++[m]).length:Int))=[u32.wrap ((ms++[m]).length:Int)]:=by
    rw[zbR (by omega) (by omega)];rfl
   rw[e]at q1
   have q1':ze2 ⟨(W:Int),(D:Int)⟩ (a:Int) ⟨0,0,ms++[m]⟩ [u32.wrap ((ms++[m]).length:Int)] (mk N f)=some _:=q1
   simp only[qY,qI,Bool.not_true,Bool.not_false,cnT,cnF,c2,qO,zaZ (show(ms.length+1)*24<=140737488355328 by omega),q1']
   rfl
theorem zx5(ha:a+(1+D*(1+W))<=N)(hok:zhw (fun i=>f (a+i)) W D=true) :
 zkx (a:Int) (W:Int) (D:Int) (mk N f)=some (((stM (fun i=>f (a+i)) W D).length:Int),0,⟨mk N f⟩):=by
 have k1':zgP ⟨(W:Int),(D:Int)⟩ (a:Int) (mk N f)=some _:=ztw hf hW1 hW hD1 hD hN ha hok
 unfold zkx
 dsimp only [Tree.run0,Tree.run]
 rw[zlx hf hW1 hW hD1 hD hN,k1'];rfl
theorem zBG(ha:a+(3+D*(1+W))<=N)(hok:zeI (fun i=>f (a+i)) W D=true) :
 zim (a:Int) (W:Int) (D:Int) (mk N f)=some (((ptM (fun i=>f (a+i)) W D).length:Int),f (a+2),0,⟨mk N f⟩):=by
 have k1':ze1 (a:Int) (W:Int) (D:Int) (mk N f)=some _:=zmJ hf hW1 hW hD1 hD hN ha hok
 unfold zim
 dsimp only [Tree.run0,Tree.run]
 rw[k1'];rfl
theorem zD6(ha:a+(3+D*(1+W))<=N)(hok:zeI (fun i=>f (a+i)) W D=true) :
 zkv (a:Int) (W:Int) (D:Int) (mk N f)=some (zW (ptM (fun i=>f (a+i)) W D) 0,decide (1<=(ptM (fun i=>f (a+i)) W D).length),0,⟨mk N f⟩):=by
 have k1':ze1 (a:Int) (W:Int) (D:Int) (mk N f)=some _:=zmJ hf hW1 hW hD1 hD hN ha hok
 unfold zkv
 dsimp only [Tree.run0,Tree.run]
 rw[k1']
 unfold ptR
 generalize ptM (fun i=>f (a+i)) W D=ms
 cases ms with
 | nil=>rfl
 | cons x xs=>
  have:(((x :: xs).length:Int)==0)=false:=by
   cases h:(((x :: xs).length:Int)==0)with
   | false=>rfl
   | true=>exact absurd (show(((x :: xs).length:Int))=0 by simpa using h) (by rw[List.length_cons];omega)
  simp only[qY,qI,Bool.not_true,cnT,cnF,this,zbD (x:=0) (n:=(x :: xs).length) (Int.le_refl 0) (by rw[List.length_cons];omega),decide_eq_true (show 1<=(x :: xs).length by rw[List.length_cons];omega)]
theorem zD7(ha:a+(3+D*(1+W))<=N)(hok:zeI (fun i=>f (a+i)) W D=true) :
 zij (a:Int) (W:Int) (D:Int) (mk N f)=some (if(ptM (fun i=>f (a+i)) W D).length=0 then(false,0,⟨mk N f⟩)else(true,0,⟨mk N (over f a (3+D*(1+W)) (zgv D W (((f (a+0)).toNat+1) % D) (f (a+2)) ((ptM (fun i=>f (a+i)) W D).drop 1)))⟩)):=by
 obtain ⟨s1,s2,_⟩:=zmK (hf.sh a) hok
 obtain ⟨h1,_,_,_⟩:=qpt_iff.1 hok
 have h1':f (a+0)<(D:Int):=h1
 have h0:=(hf (a+0)).1
 have k1':ze1 (a:Int) (W:Int) (D:Int) (mk N f)=some (⟨(W:Int),(D:Int)⟩,⟨f (a+0),f (a+2),ptM (fun i=>f (a+i)) W D⟩,0,⟨mk N f⟩):=zmJ hf hW1 hW hD1 hD hN ha hok
 generalize ptM (fun i=>f (a+i)) W D=ms at *
 have eD:u32.wrap (D:Int)=(D:Int):=zbR (by omega) (by omega)
 have e1:u32.wrap (f (a+0)+1)=(((f (a+0)).toNat+1:Nat):Int):=by rw[zbR (by omega) (by omega)];omega
 have er : ∀ x y:Nat,dv .rem .u32 (x:Int) (y:Int)=((x % y:Nat):Int):=fun x y=>by
  show Int.tmod (x:Int) (y:Int)=_
  rw[Int.tmod_eq_emod_of_nonneg (Int.natCast_nonneg x)]
  exact(Int.natCast_emod x y).symm
 unfold zij
 dsimp only [Tree.run0,Tree.run]
 rw[k1',qY]
 simp only[eD,e1,er,tnC,List.take_length]
 by_cases c:ms.length=0
 . rw[if_pos c]
   show cond ((ms.length:Int)==0) _ _=_
   rw[c];rfl
 . rw[if_neg c]
   have c2:((ms.length:Int)==0)=false:=by
    cases h:((ms.length:Int)==0)with
    | false=>rfl
    | true=>exact absurd (by simpa using h) c
   have q1':zgN ⟨(W:Int),(D:Int)⟩ (a:Int) ⟨((((f (a+0)).toNat+1) % D:Nat):Int),f (a+2),ms.drop 1⟩ (mk N f)=some _:=zoK hf hW1 hW hD1 hD hN ha (first:=((f (a+0)).toNat+1) % D) (Nat.mod_lt _ (by omega)) (lost:=f (a+2)) (ms:=ms.drop 1) (fun x hx=>s1 x (List.mem_of_mem_drop hx)) (by rw[List.length_drop];omega)
   rw[c2,q1',decide_eq_false (show ¬ (D:Int)=0 by omega),inS_iff.2 (show 0<=(1:Int)/\(1:Int)<=(ms.length:Int)/\(ms.length:Int)<=(ms.length:Int)from⟨by omega,by omega,by omega⟩)]
   rfl
end
def zzl(D:Nat)(x:Int × List (List Int))(m:List Int):Int × List (List Int):=if x.2.length<D then(x.1,x.2++[m])else if x.1<4294967295 then(x.1+1,x.2)else x
def zhv(D:Nat)(x:Int × List (List Int))(sm:List (List Int)):Nat->Int × List (List Int)
 | 0=>x
 | t+1=>zzl D (zhv D x sm t) (zW sm t)
def zmI(h:Nat->Int)(W D:Nat)(sm:List (List Int)):Nat->Int:=zgv D W (h 0).toNat (zhv D (h 2,ptM h W D) sm sm.length).1 (zhv D (h 2,ptM h W D) sm sm.length).2
def opQ(f:Nat->Int)(ps:Nat->Nat)(W D:Nat)(sm:List (List Int))(j:Nat)(g:Nat->Int):Nat->Int:=over g (ps j) (3+D*(1+W)) (zmI (fun i=>f (ps j+i)) W D sm)
structure zuV(W D:Nat)(x:Int × List (List Int)):Prop where
 lost:0<=x.1/\x.1<4294967296
 len:x.2.length<=D
 ok : ∀ m ∈ x.2,zcs W m
theorem zpV{W D:Nat}{x:Int × List (List Int)}(hx:zuV W D x){sm:List (List Int)}(hs : ∀ m ∈ sm,zcs W m)(t:Nat)(ht:t<=sm.length):zuV W D (zhv D x sm t):=by
 induction t with
 | zero=>exact hx
 | succ t ih=>
  obtain ⟨h1,h2,h3⟩:=ih (by omega)
  show zuV W D (zzl D (zhv D x sm t) (zW sm t))
  unfold zzl
  split
  . rename_i c
    refine⟨h1,?_,fun m hm=>?_⟩
    . show(_++[_]).length<=D
      rw[List.length_append,qO];omega
    . rcases List.mem_append.1 hm with h | h
      . exact h3 m h
      . rw[List.mem_singleton.1 h];exact hs _ (ziB (by omega))
  . split
    . refine⟨?_,h2,h3⟩
      constructor <;> (simp only;omega)
    . exact⟨h1,h2,h3⟩
theorem zBF{h:Nat->Int}(hf:U32 h){W D:Nat}(hok:zeI h W D=true):zuV W D (h 2,ptM h W D):=by
 obtain ⟨s1,s2,_⟩:=zmK hf hok
 exact⟨hf 2,s2,s1⟩
theorem zsB{h:Nat->Int}(hf:U32 h){W D:Nat}(hD:D<=8)(hW:W<=16)(hok:zeI h W D=true){sm:List (List Int)}(hs : ∀ m ∈ sm,zcs W m):zeI (zmI h W D sm) W D=true/\U32 (zmI h W D sm):=by
 obtain ⟨a1,a2,a3⟩:=zpV (zBF hf hok) hs sm.length (qD)
 have h0:=(hf 0).1
 have hfi:(h 0).toNat<D:=by have:=(qpt_iff.1 hok).1;omega
 exact⟨zsA a3 a2 hfi,zvN a3 a2 hfi hD hW a1⟩
theorem zBe(a:Nat):Nat.max a 0=a:=by show max a 0=a;omega
theorem nz{n:Nat}(h : ¬ n=0):((n:Int)==0)=false:=by
 cases c:((n:Int)==0)with
 | false=>rfl
 | true=>exact absurd (by have:=eq_of_beq c;omega) h
def zc1(f:Nat->Int)(ps:Nat->Nat)(W D i:Nat):List zU:=(List.range i).map fun j=>ptR (fun i=>f (ps j+i)) W D
theorem zo4(f:Nat->Int)(ps:Nat->Nat)(W D i:Nat):(zc1 f ps W D i).length=i:=by simp[zc1]
theorem zBU(f:Nat->Int)(ps:Nat->Nat)(W D:Nat){i j:Nat}(h:j<i):zhO (zc1 f ps W D i) j=ptR (fun i=>f (ps j+i)) W D:=by simp[zc1,zhO,List.getD,h]
section
variable {f:Nat->Int} (hf:U32 f) {W D:Nat} (hW1:1<=W) (hW:W<=16) (hD1:1<=D) (hD:D<=8) {N a:Nat} (hN:N<=100000) {k:Nat} (hk:k<=4) {ps:Nat->Nat}
include hf hW1 hW hD1 hD hN hk
theorem zlD{op:Nat->(Nat->Int)->Nat->Int}(ho : ∀ j g,j<k->U32 g->U32 (op j g)) : ∀ i,i<=k->U32 (za5 f op i):=by
 intro i
 induction i with
 | zero=>exact fun _=>hf
 | succ i ih=>exact fun h=>ho i _ (by omega) (ih (by omega))
theorem zJK(hst:a+(1+D*(1+W))<=N)(hpt : ∀ j,j<k->ps j+(3+D*(1+W))<=N)(hs:zhw (fun i=>f (a+i)) W D=true)(hp : ∀ j,j<k->zeI (fun i=>f (ps j+i)) W D=true) :
 zky (a:Int) (W:Int) (D:Int) (mk k fun j=>(ps j:Int)) (mk N f)=some (0,⟨mk N (over (za5 f (opQ f ps W D (stM (fun i=>f (a+i)) W D)) k) a (1+D*(1+W)) (zfS D W []))⟩):=by
 obtain ⟨s1,s2,_⟩:=zrh (hf.sh a) hs
 have t1':zeD ⟨(W:Int),(D:Int)⟩ (some ⟨mk N f⟩) (a:Int) 1=some true:=zlP hf hW1 hW hD1 hD hN (a:=a) 1 (by omega) hst
 have m1':zgQ ⟨(W:Int),(D:Int)⟩ (a:Int) (mk N f)=some _:=zwu hf hW1 hW hD1 hD hN hst hs
 generalize stM (fun i=>f (a+i)) W D=sm at *
 -- the qt are there
 have l0:=zK (n:=k) (f:=fun i (_:Unit)=>zbQ (a:Int) (W:Int) (D:Int) (mk k fun j=>(ps j:Int)) (mk N f) (.l0 true (i:Int))) (S:=fun _=>()) (fun i hi=>by
  have k1':zeD ⟨(W:Int),(D:Int)⟩ (some ⟨mk N f⟩) (ps i:Int) 3=some true:=zlP hf hW1 hW hD1 hD hN (a:=ps i) 3 (by omega) (hpt i hi)
  rw[zci]
  simp only[zem,zP,zY hi,cnT,zo hi,tnC,zbf hi,k1',zj i (show i<4611686018427387904 by omega),Tree.run,qY])
 have x0:zbQ (a:Int) (W:Int) (D:Int) (mk k fun j=>(ps j:Int)) (mk N f) (.l0 true (k:Int))=zbQ (a:Int) (W:Int) (D:Int) (mk k fun j=>(ps j:Int)) (mk N f) (.l4 (⟨0,0,sm⟩,true,⟨mk N f⟩) true 0 (mk N f) []):=by
  rw[zci]
  simp only[zem,zP,z8 (Nat.le_refl k),cnF,m1',cnT,Bool.not_true,Tree.run,qY]
 -- the rows
 have l4:=zK (n:=k) (f:=fun i (xs:List zU)=>zbQ (a:Int) (W:Int) (D:Int) (mk k fun j=>(ps j:Int)) (mk N f) (.l4 (⟨0,0,sm⟩,true,⟨mk N f⟩) true (i:Int) (mk N f) xs)) (S:=fun i=>zc1 f ps W D i) (fun i hi=>by
  have k1':zgO ⟨(W:Int),(D:Int)⟩ (ps i:Int) (mk N f)=some _:=zBC hf hW1 hW hD1 hD hN (a:=ps i) (hpt i hi) (hp i hi)
  have er:zc1 f ps W D (i+1)=zc1 f ps W D i++[ptR (fun j=>f (ps i+j)) W D]:=by simp[zc1,List.range_succ]
  rw[zci]
  simp only[zem,zP,zY hi,cnT,zo hi,tnC,zbf hi,k1',zj i (show i<4611686018427387904 by omega),zo4,qO,zaZ (show(i+1)*32<=140737488355328 by omega),er,Tree.run,qY])
 have x4:zbQ (a:Int) (W:Int) (D:Int) (mk k fun j=>(ps j:Int)) (mk N f) (.l4 (⟨0,0,sm⟩,true,⟨mk N f⟩) true (k:Int) (mk N f) (zc1 f ps W D k))=zbQ (a:Int) (W:Int) (D:Int) (mk k fun j=>(ps j:Int)) (mk N f) (.l8 (⟨0,0,sm⟩,true,⟨mk N f⟩) 0 (mk N f) (zc1 f ps W D k) 0):=by
  rw[zci]
  simp only[zem,zP,z8 (Nat.le_refl k),cnF,Bool.not_true,Tree.run,qY]
 -- what is laid
 have hU : ∀ i,i<=k->U32 (za5 f (opQ f ps W D sm) i):=zlD hf hW1 hW hD1 hD hN hk fun j g hj hg=>zeu hg fun i hi=>(zsB (hf.sh (ps j)) hD hW (hp j hj) s1).2 i
 have l8:=zK (n:=k) (f:=fun i (xs:List Int)=>zbQ (a:Int) (W:Int) (D:Int) (mk k fun j=>(ps j:Int)) (mk N f) (.l8 (⟨0,0,sm⟩,true,⟨mk N f⟩) (i:Int) xs (zc1 f ps W D k) i)) (S:=fun i=>mk N (za5 f (opQ f ps W D sm) i)) (fun i hi=>by
  have hacc:=zBF (hf.sh (ps i)) (hp i hi)
  obtain ⟨a1,a2,a3⟩:=zpV hacc s1 sm.length (qD)
  have h0:0<=f (ps i+0):=((hf.sh (ps i)) 0).1
  have hfi:(f (ps i+0)).toNat<D:=by have h1:f (ps i+0)<(D:Int):=(qpt_iff.1 (hp i hi)).1;omega
  have ef:(((f (ps i+0)).toNat:Nat):Int)=f (ps i+0):=by omega
  have q1:=zoK (hU i (by omega)) hW1 hW hD1 hD hN (hpt i hi) hfi (lost:=(zhv D (f (ps i+2),ptM (fun j=>f (ps i+j)) W D) sm sm.length).1) a3 a2
  rw[ef]at q1
  have hes:over (za5 f (opQ f ps W D sm) i) (ps i) (3+D*(1+W)) (zgv D W (f (ps i+0)).toNat (zhv D (f (ps i+2),ptM (fun j=>f (ps i+j)) W D) sm sm.length).1 (zhv D (f (ps i+2),ptM (fun j=>f (ps i+j)) W D) sm sm.length).2)=za5 f (opQ f ps W D sm) (i+1):=rfl
  rw[hes]at q1
  have hat:ptR (fun j=>f (ps i+j)) W D=⟨f (ps i+0),f (ps i+2),ptM (fun j=>f (ps i+j)) W D⟩:=rfl
  have hpe:ps i+0=ps i:=rfl
  generalize hy0:f (ps i+0)=y0 at *
  generalize hx:(f (ps i+2),ptM (fun j=>f (ps i+j)) W D)=x at *
  have hx1:f (ps i+2)=x.1:=by rw[← hx]
  have hx2:ptM (fun j=>f (ps i+j)) W D=x.2:=by rw[← hx]
  have q1':zgN ⟨(W:Int),(D:Int)⟩ (ps i:Int) ⟨y0,(zhv D x sm sm.length).1,(zhv D x sm sm.length).2⟩ (mk N (za5 f (opQ f ps W D sm) i))=some _:=q1
  have inner:=zK (n:=sm.length) (f:=fun t (y:Int × List (List Int))=>zbQ (a:Int) (W:Int) (D:Int) (mk k fun j=>(ps j:Int)) (mk N f) (.l12 (⟨0,0,sm⟩,true,⟨mk N f⟩) (ps i:Int) (i:Int) (t:Int) (mk N (za5 f (opQ f ps W D sm) i)) (zc1 f ps W D k) (i+1) y0 y.1 y.2)) (S:=fun t=>zhv D x sm t) (fun t ht=>by
   obtain ⟨b1,b2,b3⟩:=zpV hacc s1 t (by omega)
   have h75 : ∀ (z4:Int) (z5:List (List Int)),zbQ (a:Int) (W:Int) (D:Int) (mk k fun j=>(ps j:Int)) (mk N f) (.l75 (⟨0,0,sm⟩,true,⟨mk N f⟩) (ps i:Int) (i:Int) (t:Int) (mk N (za5 f (opQ f ps W D sm) i)) (zc1 f ps W D k) (i+1) y0 z4 z5)=zbQ (a:Int) (W:Int) (D:Int) (mk k fun j=>(ps j:Int)) (mk N f) (.l12 (⟨0,0,sm⟩,true,⟨mk N f⟩) (ps i:Int) (i:Int) ((t+1:Nat):Int) (mk N (za5 f (opQ f ps W D sm) i)) (zc1 f ps W D k) (i+1) y0 z4 z5):=fun z4 z5=>by
    rw[zci]
    simp only[zem,zj t (show t<4611686018427387904 by omega),zBe,Tree.run,qY]
   have hs1:zhv D x sm (t+1)=zzl D (zhv D x sm t) (zW sm t):=rfl
   rw[hs1]
   generalize zhv D x sm t=y at *
   rw[zci]
   simp only[zem,m1',zY ht,cnT,zo ht,tnC,h75,qO,Tree.run,qY]
   unfold zzl
   by_cases c:y.2.length<D
   . rw[decide_eq_true (show((y.2.length:Nat):Int)<(D:Int)by omega),cnT,zaZ (show(y.2.length+1)*24<=140737488355328 by omega),cnT,if_pos c]
   . rw[decide_eq_false (show ¬ ((y.2.length:Nat):Int)<(D:Int)by omega),cnF,if_neg c]
     by_cases c2:y.1<4294967295
     . rw[decide_eq_true c2,cnT,if_pos c2,zbR (by omega) (by omega)]
     . rw[decide_eq_false c2,cnF,if_neg c2])
  have last:zbQ (a:Int) (W:Int) (D:Int) (mk k fun j=>(ps j:Int)) (mk N f) (.l12 (⟨0,0,sm⟩,true,⟨mk N f⟩) (ps i:Int) (i:Int) (sm.length:Int) (mk N (za5 f (opQ f ps W D sm) i)) (zc1 f ps W D k) (i+1) y0 (zhv D x sm sm.length).1 (zhv D x sm sm.length).2)=zbQ (a:Int) (W:Int) (D:Int) (mk k fun j=>(ps j:Int)) (mk N f) (.l8 (⟨0,0,sm⟩,true,⟨mk N f⟩) ((i+1:Nat):Int) (mk N (za5 f (opQ f ps W D sm) (i+1))) (zc1 f ps W D k) (i+1)):=by
   rw[zci]
   simp only[zem,m1',z8 (qD),cnF,q1',cnT,zj i (show i<4611686018427387904 by omega),zBe,Tree.run,qY]
  have go:zbQ (a:Int) (W:Int) (D:Int) (mk k fun j=>(ps j:Int)) (mk N f) (.l12 (⟨0,0,sm⟩,true,⟨mk N f⟩) (ps i:Int) (i:Int) 0 (mk N (za5 f (opQ f ps W D sm) i)) (zc1 f ps W D k) (i+1) y0 x.1 x.2)=zbQ (a:Int) (W:Int) (D:Int) (mk k fun j=>(ps j:Int)) (mk N f) (.l8 (⟨0,0,sm⟩,true,⟨mk N f⟩) ((i+1:Nat):Int) (mk N (za5 f (opQ f ps W D sm) (i+1))) (zc1 f ps W D k) (i+1)):=inner.trans last
  have hb:Nat.ble i i=true:=Nat.ble_self_eq_true i
  have hmax:Nat.max (i+1) (Nat.max i 0)=i+1:=by rw[zBe];show max (i+1) i=i+1;omega
  rw[zci]
  simp only[zem,zP,zY hi,cnT,zo hi,tnC,zbf hi,zo4,zBU f ps W D hi,hb,Bool.and_self,hmax,hat,hx1,hx2,go,Tree.run,qY])
 have w1':ze2 ⟨(W:Int),(D:Int)⟩ (a:Int) ⟨0,0,[]⟩ [0] (mk N (za5 f (opQ f ps W D sm) k))=some (⟨mk N (over (za5 f (opQ f ps W D sm) k) a (1+D*(1+W)) (zfS D W []))⟩):=zAS (hU k (qD)) hW1 hW hD1 hD hN (a:=a) (h:=1) (by omega) (first:=0) (by omega) (lost:=0) (ms:=[]) (fun m hm=>absurd hm List.not_mem_nil) (Nat.zero_le _) (fun _=>0) hst
 unfold zky zAl
 dsimp only [Tree.run0,Tree.run]
 rw[zlx hf hW1 hW hD1 hD hN,zP,decide_eq_false (show ¬ (k:Int)>4 by omega),t1',qY]
 refine(show zbQ (a:Int) (W:Int) (D:Int) (mk k fun j=>(ps j:Int)) (mk N f) (.l0 true 0)=_ from l0).trans (x0.trans ?_)
 refine(show zbQ (a:Int) (W:Int) (D:Int) (mk k fun j=>(ps j:Int)) (mk N f) (.l4 (⟨0,0,sm⟩,true,⟨mk N f⟩) true 0 (mk N f) [])=_ from l4).trans (x4.trans ?_)
 refine(show zbQ (a:Int) (W:Int) (D:Int) (mk k fun j=>(ps j:Int)) (mk N f) (.l8 (⟨0,0,sm⟩,true,⟨mk N f⟩) 0 (mk N f) (zc1 f ps W D k) 0)=_ from l8).trans ?_
 rw[zci]
 simp only[zem,zP,z8 (Nat.le_refl k),cnF,w1',cnT,id,Tree.run,qY]
end
noncomputable def stB(x:zI)(g:Nat->Int):Bool:=if x.kind=2 then zhw g x.qx.toNat x.qy.toNat else zbP g 2 x.qx.toNat
noncomputable def ptB(x:zI)(g:Nat->Int):Bool:=if x.kind=2 then zeI g x.qx.toNat x.qy.toNat else zbP g 3 x.qx.toNat
theorem zwv{x:zI}(h:x.kind=1):stg x=2+x.qx.toNat:=if_pos h
theorem zww{x:zI}(h:x.kind=2):stg x=1+x.qy.toNat*(1+x.qx.toNat):=by
 unfold stg body;rw[if_neg (by omega),if_neg (by omega)]
theorem zvO{x:zI}(h:x.kind=1):prt x=3+x.qx.toNat:=by unfold prt body;rw[if_pos h]
theorem zvP{x:zI}(h:x.kind=2):prt x=3+x.qy.toNat*(1+x.qx.toNat):=by unfold prt body;rw[if_neg (by omega)]
theorem zmP{f g:Nat->Int}{W D first:Nat}{many:Int}(he : ∀ i,i<D*(1+W)->f i=g i)(h:zf5 f W D first many=true):zf5 g W D first many=true:=by
 refine zqN fun i hi=>okQ_iff.2 ?_
 have h1:=Nat.mod_lt (first+i) (show D>0 by omega)
 have h2:((first+i) % D+1)*(1+W)<=D*(1+W):=Nat.mul_le_mul_right _ h1
 rw[Nat.add_mul,Nat.one_mul]at h2
 obtain ⟨⟨g1,g2⟩,g3⟩:=okQ_iff.1 (zlK h hi)
 rw[he _ (by omega)]at g1 g2 g3
 refine⟨⟨g1,fun j hj=>?_⟩,g3⟩
 have:=g2 j hj
 rw[he _ (by omega)]at this
 exact this
theorem zo1{f g:Nat->Int}{W D:Nat}(he : ∀ i,i<1+D*(1+W)->f i=g i)(h:zhw f W D=true):zhw g W D=true:=by
 obtain ⟨h1,h2⟩:=qst_iff.1 h
 rw[he 0 (by omega)]at h1 h2
 exact qst_iff.2 ⟨h1,zmP (fun i hi=>he _ (by omega)) h2⟩
theorem zo0{f g:Nat->Int}{W D:Nat}(he : ∀ i,i<3+D*(1+W)->f i=g i)(h:zeI f W D=true):zeI g W D=true:=by
 obtain ⟨h1,h2,h3,h4⟩:=qpt_iff.1 h
 rw[he 0 (by omega)]at h1 h3 h4
 rw[he 1 (by omega)]at h2 h3 h4
 exact qpt_iff.2 ⟨h1,h2,h3,zmP (fun i hi=>he _ (by omega)) h4⟩
theorem zcl{x:zI}(hx:zbZ x){f g:Nat->Int}(he : ∀ i,i<stg x->f i=g i)(h:stB x f=true):stB x g=true:=by
 unfold stB at h ⊢
 rcases hx.kind with hk | hk
 . rw[if_neg (by omega)]at h ⊢
   rw[zwv hk]at he
   rw[← zex (.inl rfl) he];exact h
 . rw[if_pos hk]at h ⊢
   rw[zww hk]at he
   exact zo1 he h
theorem zcg{x:zI}(hx:zbZ x){f g:Nat->Int}(he : ∀ i,i<prt x->f i=g i)(h:ptB x f=true):ptB x g=true:=by
 unfold ptB at h ⊢
 rcases hx.kind with hk | hk
 . rw[if_neg (by omega)]at h ⊢
   rw[zvO hk]at he
   rw[← zex (.inr rfl) he];exact h
 . rw[if_pos hk]at h ⊢
   rw[zvP hk]at he
   exact zo0 he h
theorem zo2(W D first:Nat):zf5 (fun _=>0) W D first 0=true:=zqN fun i hi=>okQ_iff.2 ⟨⟨by omega,fun _ _=>rfl⟩,by omega⟩
theorem zCl{x:zI}(hx:zbZ x){f:Nat->Int}(hz : ∀ i,i<stg x->f i=0):stB x f=true:=by
 refine zcl hx (f:=fun _=>0) (fun i hi=>(hz i hi).symm) ?_
 unfold stB
 split
 . exact qst_iff.2 ⟨by omega,zo2 _ _ _⟩
 . exact zkf fun _ _=>rfl
theorem zBE{x:zI}(hx:zbZ x){f:Nat->Int}(hz : ∀ i,i<prt x->f i=0):ptB x f=true:=by
 refine zcg hx (f:=fun _=>0) (fun i hi=>(hz i hi).symm) ?_
 unfold ptB
 split
 . rename_i h
   have:=(hx.qy.1 h).1
   exact qpt_iff.2 ⟨by show(0:Int)<_;omega,by omega,.inr rfl,zo2 _ _ _⟩
 . exact zkf fun _ _=>rfl
section
variable {f:Nat->Int} {q:Nat->Nat} {n:Nat} {h:Nat->Nat->Int}
theorem zg9{i:Nat} : ∀ k,(∀ j,j<k->¬ (q j<=i/\i<q j+n))->za5 f (fun j g=>over g (q j) n (h j)) k i=f i
 | 0,_=>rfl
 | k+1,hn=>by
  show over (za5 f (fun j g=>over g (q j) n (h j)) k) (q k) n (h k) i=f i
  rw[zaB (hn k (by omega)),zg9 k fun j hj=>hn j (by omega)]
theorem ziK{j i:Nat}(hi:i<n) : ∀ k,j<k->(∀ a b,a<k->b<a->q b+n<=q a ∨ q a+n<=q b)->za5 f (fun j g=>over g (q j) n (h j)) k (q j+i)=h j i
 | 0,hj,_=>absurd hj (by omega)
 | k+1,hj,hd=>by
  show over (za5 f (fun j g=>over g (q j) n (h j)) k) (q k) n (h k) (q j+i)=h j i
  by_cases hjk:j=k
  . subst hjk;exact zhf hi
  . have:=hd k j (by omega) (by omega)
    rw[zaB (by omega),ziK hi k (by omega) fun a b ha hb=>hd a b (by omega) hb]
end
noncomputable def zjz(x:zI)(a k:Nat)(ps:Nat->Nat)(f:Nat->Int):Nat->Int:=
 if x.kind=2 then over (za5 f (opQ f ps x.qx.toNat x.qy.toNat (stM (fun i=>f (a+i)) x.qx.toNat x.qy.toNat)) k) a (1+x.qy.toNat*(1+x.qx.toNat)) (zfS x.qy.toNat x.qx.toNat [])
 else if stN (fun i=>f (a+i)) 2 x.qx.toNat=0 then za5 f (zmB ps) k
 else over (za5 f (zk7 ps x.qx.toNat (stN (fun i=>f (a+i)) 2 x.qx.toNat) fun i=>f (a+(2+i))) k) a (2+x.qx.toNat) fun _=>0
structure zlV(x:zI)(a k:Nat)(ps:Nat->Nat)(f f':Nat->Int):Prop where
 u:U32 f'
 st:stB x (fun i=>f' (a+i))=true
 pt : ∀ j,j<k->ptB x (fun i=>f' (ps j+i))=true
 out : ∀ i,¬ (a<=i/\i<a+stg x)->(∀ j,j<k->¬ (ps j<=i/\i<ps j+prt x))->f' i=f i
theorem zJ0{f:Nat->Int}{W:Nat}(hok:zbP f 2 W=true):stN f 2 W<=W:=by
 unfold stN zbn
 cases c1:(List.range (2+W)).any fun i=>!(f i==0)with
 | false=>exact Nat.zero_le _
 | true=>
  cases c2:zfj f 2 W with
  | false=>exact Nat.zero_le _
  | true=>
   simp only[cnT,zP]
   unfold zfj zet at c2
   simp only[qH,qG]at c2
   omega
theorem zBV{f:Nat->Int}{W:Nat}(h:zbP f 3 W=true):zbP (fun i=>if i=1 then 0 else f i) 3 W=true:=by
 unfold zbP at h ⊢
 rw[Bool.or_eq_true]at h ⊢
 rcases h with h | h
 . left
   rw[Bool.not_eq_true',any_f]at h ⊢
   intro i hi
   have:=h i hi
   simp only
   split
   . rfl
   . exact this
 . right
   simp only[qH]at h ⊢
   obtain ⟨⟨h1,h2⟩,h3⟩:=h
   refine⟨⟨by simpa using h1,by simp⟩,?_⟩
   unfold zet at h3 ⊢
   have e:(List.range (W-(if(3-1=1)then(0:Int)else f (3-1)).toNat)).any (fun i=>!((if 3+(if(3-1=1)then(0:Int)else f (3-1)).toNat+i=1 then(0:Int)else f (3+(if(3-1=1)then(0:Int)else f (3-1)).toNat+i))==0))=(List.range (W-(f (3-1)).toNat)).any (fun i=>!(f (3+(f (3-1)).toNat+i)==0)):=by
    rw[if_neg (by decide)]
    refine zhN fun i hi=>?_
    rw[if_neg (by omega)]
   rw[e]
   simpa using h3
section
variable {F:Nat} {f:Nat->Int} (hf:U32 f) (hF:F<=1024) {x:zI} (hx:zbZ x) {a k:Nat} (hk1:1<=k) (hk:k<=4) {ps:Nat->Nat} (hA:zyA (16*F) a (stg x) (prt x) k ps) (hs:stB x (fun i=>f (a+i))=true) (hp : ∀ j,j<k->ptB x (fun i=>f (ps j+i))=true)
include hf hF hx hk1 hk hA hs hp
theorem zJ5(h2:x.kind=2):ze4 ⟨⟨(a:Int),x.qx,mk k fun j=>(ps j:Int)⟩,x.qy⟩ (mk (16*F) f)=some (0,⟨mk (16*F) (zjz x a k ps f)⟩)/\zlV x a k ps f (zjz x a k ps f):=by
 obtain ⟨w1,w2⟩:=hx.qx
 obtain ⟨d1,d2⟩:=hx.qy.1 h2
 have hA':=hA
 rw[zww h2,zvP h2]at hA
 obtain ⟨W,hW⟩ : ∃ W:Nat,x.qx=(W:Int):=⟨x.qx.toNat,by omega⟩
 obtain ⟨D,hD⟩ : ∃ D:Nat,x.qy=(D:Int):=⟨x.qy.toNat,by omega⟩
 have eW:x.qx.toNat=W:=by omega
 have eD:x.qy.toNat=D:=by omega
 have eT:zjz x a k ps f=over (za5 f (opQ f ps W D (stM (fun i=>f (a+i)) W D)) k) a (1+D*(1+W)) (zfS D W []):=by unfold zjz;rw[if_pos h2,eW,eD]
 have eS:stg x=1+D*(1+W):=by rw[zww h2,eW,eD]
 have eP:prt x=3+D*(1+W):=by rw[zvP h2,eW,eD]
 have bS : ∀ g,stB x g=zhw g W D:=fun g=>by unfold stB;rw[if_pos h2,eW,eD]
 have bP : ∀ g,ptB x g=zeI g W D:=fun g=>by unfold ptB;rw[if_pos h2,eW,eD]
 rw[eW,eD]at hA
 rw[bS]at hs
 have hp' : ∀ j,j<k->zeI (fun i=>f (ps j+i)) W D=true:=fun j hj=>by rw[← bP];exact hp j hj
 obtain ⟨s1,s2,_⟩:=zrh (hf.sh a) hs
 have q1':zky (a:Int) (W:Int) (D:Int) (mk k fun j=>(ps j:Int)) (mk (16*F) f)=some _:=zJK hf (W:=W) (D:=D) (by omega) (by omega) (by omega) (by omega) (N:=16*F) (by omega) hk hA.qn hA.port hs hp'
 constructor
 . unfold ze4
   simp only[Tree.run,qY,hW,hD,q1',cnT,id,eT]
 . rw[eT]
   have hw : ∀ j,j<k->zeI (zmI (fun i=>f (ps j+i)) W D (stM (fun i=>f (a+i)) W D)) W D=true/\U32 (zmI (fun i=>f (ps j+i)) W D (stM (fun i=>f (a+i)) W D)):=fun j hj=>zsB (hf.sh (ps j)) (by omega) (by omega) (hp' j hj) s1
   have nil : ∀ m ∈ ([]:List (List Int)),zcs W m:=fun m hm=>absurd hm List.not_mem_nil
   refine⟨zeu (zlD hf (W:=W) (D:=D) (by omega) (by omega) (by omega) (by omega) (N:=16*F) (by omega) hk (fun j g hj hg=>zeu hg fun i hi=>(hw j hj).2 i) k (qD)) fun i hi=>ztv nil (Nat.zero_le _) (by omega) (by omega) i,?_,fun j hj=>?_,fun i h1 h2=>?_⟩
   . rw[bS]
     exact zo1 (fun i hi=>(zhf hi).symm) (zpE nil (Nat.zero_le _))
   . rw[bP]
     refine zo0 (fun i hi=>?_) (hw j hj).1
     have:=hA.sp j hj
     rw[zaB (by omega)]
     exact(ziK (h:=fun j=>zmI (fun i=>f (ps j+i)) W D (stM (fun i=>f (a+i)) W D)) hi k hj hA.pp).symm
   . rw[eS]at h1
     rw[eP]at h2
     rw[zaB h1]
     exact zg9 (h:=fun j=>zmI (fun i=>f (ps j+i)) W D (stM (fun i=>f (a+i)) W D)) k h2
theorem zJ6 (h2:x.kind=1):ze5 ⟨⟨(a:Int),x.qx,mk k fun j=>(ps j:Int)⟩⟩ (mk (16*F) f)=some (0,⟨mk (16*F) (zjz x a k ps f)⟩)/\zlV x a k ps f (zjz x a k ps f):=by
 obtain ⟨w1,w2⟩:=hx.qx
 rw[zwv h2,zvO h2]at hA
 obtain ⟨W,hW⟩ : ∃ W:Nat,x.qx=(W:Int):=⟨x.qx.toNat,by omega⟩
 have eW:x.qx.toNat=W:=by omega
 have eT:zjz x a k ps f=if stN (fun i=>f (a+i)) 2 W=0 then za5 f (zmB ps) k else over (za5 f (zk7 ps W (stN (fun i=>f (a+i)) 2 W) fun i=>f (a+(2+i))) k) a (2+W) fun _=>0:=by unfold zjz;rw[if_neg (by omega),eW]
 have eS:stg x=2+W:=by rw[zwv h2,eW]
 have eP:prt x=3+W:=by rw[zvO h2,eW]
 have bS : ∀ g,stB x g=zbP g 2 W:=fun g=>by unfold stB;rw[if_neg (by omega),eW]
 have bP : ∀ g,ptB x g=zbP g 3 W:=fun g=>by unfold ptB;rw[if_neg (by omega),eW]
 rw[eW]at hA
 rw[bS]at hs
 have hp' : ∀ j,j<k->zbP (fun i=>f (ps j+i)) 3 W=true:=fun j hj=>by rw[← bP];exact hp j hj
 have q1':zkA (a:Int) (W:Int) (mk k fun j=>(ps j:Int)) (mk (16*F) f)=some _:=zJV hf hF (W:=W) (by omega) (by omega) hk1 hk hA hs hp'
 constructor
 . unfold ze5
   simp only[Tree.run,qY,hW,q1',cnT,id,eT]
 . rw [eT]
   have hnl:=zJ0 hs
   by_cases c:stN (fun i=>f (a+i)) 2 W=0
   . rw [if_pos c]
     have hq : ∀ i j,i<k->j<i->(ps j+1)+1<=ps i+1 ∨ (ps i+1)+1<=ps j+1:=fun i j hi hj=>by have:=hA.pp i j hi hj;omega
     have hout : ∀ i,(∀ j,j<k->¬ (ps j+1<=i/\i<ps j+1+1))->za5 f (zmB ps) k i=f i:=fun i h=>zg9 (q:=fun j=>ps j+1) (n:=1) (h:=fun _ _=>0) k h
     refine⟨zlD hf (W:=W) (D:=1) (by omega) (by omega) (by omega) (by omega) (N:=16*F) (by omega) hk (fun j g hj hg=>zeu hg fun i hi=>by omega) k (qD),?_,fun j hj=>?_,fun i g1 g2=>?_⟩
     . rw[bS,zex (.inl rfl) fun i hi=>hout (a+i) fun j hj=>by have:=hA.sp j hj;omega]
       exact hs
     . rw [bP,zex (g:=fun i=>if i=1 then 0 else f (ps j+i)) (.inr rfl) fun i hi=>?_]
       . exact zBV (hp' j hj)
       . by_cases h1:i=1
         . subst h1
           rw[if_pos rfl]
           exact ziK (q:=fun j=>ps j+1) (n:=1) (h:=fun _ _=>0) (i:=0) (by omega) k hj hq
         . rw[if_neg h1]
           refine hout _ fun j' hj'=>?_
           by_cases e:j'=j
           . subst e;omega
           . rcases Nat.lt_or_gt_of_ne e with l | l
             . have:=hA.pp j j' hj l;omega
             . have:=hA.pp j' j hj' l;omega
     . rw[eP]at g2
       exact hout i fun j hj=>by have:=g2 j hj;omega
   . rw [if_neg c]
     generalize hn:stN (fun i=>f (a+i)) 2 W=n at *
     have hu:U32 (zbL 3 n (hd3 n) fun i=>f (a+(2+i))):=fun i=>by
      unfold zbL hd3
      split
      . split
        . constructor <;> omega
        . omega
      . split
        . exact hf _
        . omega
     refine⟨zeu (zlD hf (W:=W) (D:=1) (by omega) (by omega) (by omega) (by omega) (N:=16*F) (by omega) hk (fun j g hj hg=>zeu hg fun i hi=>hu i) k (qD)) fun i hi=>by omega,?_,fun j hj=>?_,fun i g1 g2=>?_⟩
     . rw[bS]
       exact zkf fun i hi=>zhf hi
     . rw[bP,zex (g:=zbL 3 n (hd3 n) fun i=>f (a+(2+i))) (.inr rfl) fun i hi=>?_]
       . exact zo6 (.inr rfl) (by omega) hnl _ _ rfl (fun _=>by unfold hd3;rw[if_neg (by decide)];omega) rfl
       . have:=hA.sp j hj
         rw[zaB (by omega)]
         exact ziK (h:=fun _=>zbL 3 n (hd3 n) fun i=>f (a+(2+i))) hi k hj hA.pp
     . rw[eS]at g1
       rw[eP]at g2
       rw[zaB g1]
       exact zg9 (h:=fun _=>zbL 3 n (hd3 n) fun i=>f (a+(2+i))) k g2
end
theorem zkd{N:Nat}{f:Nat->Int}{a:Nat}(hN:N<=100000)(ha:a<N):zeE (some ⟨mk N f⟩) (a:Int)=some (f a,0):=by
 have k1':zfu (some ⟨mk N f⟩) (a:Int) 1=some 0:=zjy (f:=f) hN (show a+1<=N from ha)
 have h0:(some (⟨mk N f⟩:ze)).getD default=⟨mk N f⟩:=rfl
 unfold zeE
 dsimp only [Tree.run0,Tree.run]
 rw[k1',h0]
 simp only[cnT,qI,Bool.not_true,cnF,zP,zo ha,tnC,zbf ha,id]
 rfl
structure zpU(B:(Nat->Int)->Bool)(a n:Nat)(f f':Nat->Int):Prop where
 u:U32 f'
 ok:B (fun i=>f' (a+i))=true
 out : ∀ i,¬ (a<=i/\i<a+n)->f' i=f i
section
variable {F:Nat} {f:Nat->Int} (hf:U32 f) (hF:F<=1024) {x:zI} (hx:zbZ x) {a:Nat}
include hf hF hx
end
theorem zcT(c:za){i n:Nat}(h:i<=n):cAt c i<=cAt c n:=by
 induction n with
 | zero=>rw[Nat.le_zero.1 h];exact qD
 | succ n ih=>
  by_cases hi:i<=n
  . have:=ih hi
    show cAt c i<=cAt c n+2+stg (Ch c n)+(dl c n).length*prt (Ch c n)
    omega
  . obtain rfl:i=n+1:=by omega
    exact qD
theorem zll(c:za) : ∀ n,tF c 0<=tF c n
 | 0=>qD
 | n+1=>Nat.le_trans (zll c n) (by show tF c n<=tF c n+_;omega)
noncomputable def psC(c:za)(k j:Nat):Nat:=dAt c k+j*prt (Ch c k)
noncomputable def sAt(c:za)(k:Nat):Nat:=cAt c k+2
noncomputable def kD(c:za)(k:Nat):Nat:=(dl c k).length
section
variable {c:za} (g:zaz c) (w:zei c)
include g w
theorem zgZ:16*tF c (nP c)<=nW c/\nW c<=16384:=by
 have h2:=w.need
 have h3:=w.room
 have h4:=g.qr
 have h5:=w.kernel
 unfold nW;omega
theorem zqg:cAt c (nC c)<=nW c:=by
 have h1:=(zgZ g w).1
 have h2:=zll c (nP c)
 have h3:tF c 0=(cAt c (nC c)+15) / 16:=rfl
 omega
theorem zvz{k:Nat}(hk:k<nC c):1<=kD c k/\kD c k<=4:=zvn g hk
theorem zJS{k:Nat}(hk:k<nC c):cAt c (k+1)<=nW c:=Nat.le_trans (zcT c hk) (zqg g w)
end
theorem zcd(c:za)(k:Nat):sAt c k=cAt c k+2:=rfl
theorem zi5(c:za)(k j:Nat):sAt c k+stg (Ch c k)<=psC c k j:=by
 have:dAt c k=cAt c k+2+stg (Ch c k):=rfl
 unfold psC sAt;omega
theorem zi4(c:za){k j:Nat}(hj:j<kD c k):psC c k j+prt (Ch c k)<=cAt c (k+1):=by
 have h2:(j+1)*prt (Ch c k)<=kD c k*prt (Ch c k):=Nat.mul_le_mul_right _ hj
 rw[Nat.add_mul,Nat.one_mul]at h2
 have h3:dAt c k=cAt c k+2+stg (Ch c k):=rfl
 have h4:cAt c (k+1)=cAt c k+2+stg (Ch c k)+kD c k*prt (Ch c k):=rfl
 unfold psC;omega
theorem zhM(c:za)(k:Nat):sAt c k+stg (Ch c k)<=cAt c (k+1):=by
 have h4:cAt c (k+1)=cAt c k+2+stg (Ch c k)+kD c k*prt (Ch c k):=rfl
 unfold sAt;omega
theorem zBD(c:za){k i j:Nat}(h:j<i):psC c k j+prt (Ch c k)<=psC c k i:=by
 have h2:(j+1)*prt (Ch c k)<=i*prt (Ch c k):=Nat.mul_le_mul_right _ h
 rw[Nat.add_mul,Nat.one_mul]at h2
 unfold psC;omega
theorem zOX(c:za){k i j:Nat}(h:i ≠ j):psC c k j+prt (Ch c k)<=psC c k i ∨ psC c k i+prt (Ch c k)<=psC c k j:=by
 rcases Nat.lt_or_gt_of_ne h with l | l
 . exact .inr (zBD c l)
 . exact .inl (zBD c l)
theorem zmR(c:za){k k':Nat}(h:k ≠ k'):cAt c (k+1)<=cAt c k' ∨ cAt c (k'+1)<=cAt c k:=by
 rcases Nat.lt_or_gt_of_ne h with l | l
 . exact .inl (zcT c l)
 . exact .inr (zcT c l)
theorem zdb{c:za}(g:zaz c)(w:zei c){k:Nat}(hk:k<nC c):zyA (nW c) (sAt c k) (stg (Ch c k)) (prt (Ch c k)) (kD c k) (psC c k):=by
 have h1:=zJS g w hk
 have h2:=zhM c k
 refine⟨by omega,fun j hj=>?_,fun i hi=>.inl (zi5 c k i),fun i j hi hj=>.inl (zBD c hj)⟩
 have:=zi4 c hj
 omega
theorem zsC(s:Nat) : ∀ (l:List LayoutEnd) (a j:Nat),j<l.length->(a+j*s,s,(⟨8,(zZ l j).qk,(zZ l j).port⟩:zaF)) ∈ za2 s a l
 | [],_,_,h=>by simp at h
 | e :: l,a,0,h=>by simp[za2,zZ]
 | e :: l,a,j+1,h=>by
  have:=zsC s l (a+s) j (by simpa using h)
  have e1:a+s+j*s=a+(j+1)*s:=by rw[Nat.add_mul,Nat.one_mul];omega
  rw[e1]at this
  simp only[za2,List.mem_cons]
  right
  simpa [zZ]using this
theorem zqC{c:za}{x:Pc}(hx:x ∈ zaG c){a:Nat}(ha:inP x a=true):own c a=x.2.2:=by
 unfold own
 cases h:(zaG c).find? (fun x=>inP x a)with
 | none=>
  rw[List.find?_eq_none]at h
  exact absurd ha (by simpa using h x hx)
 | some y=>
  have h1:=List.mem_of_find?_eq_some h
  have h2:=List.find?_some h
  rw[(zmo c).one h1 hx h2 ha]
theorem zoU{c:za}{k a:Nat}(hk:k<nC c)(h:sAt c k<=a/\a<sAt c k+stg (Ch c k)):own c a=⟨7,(k:Int),0⟩:=zqC (ref_mem.2 (.qn hk)) (inP_iff.2 h)
theorem zsu{c:za}{k j a:Nat}(hk:k<nC c)(hj:j<kD c k)(h:psC c k j<=a/\a<psC c k j+prt (Ch c k)):own c a=⟨8,(zZ (dl c k) j).qk,(zZ (dl c k) j).port⟩:=
 zqC (ref_mem.2 (.port hk (zsC (prt (Ch c k)) (dl c k) (dAt c k) j hj))) (inP_iff.2 h)
structure GoodW(c:za)(f:Nat->Int):Prop where
 u:U32 f
 st : ∀ k,k<nC c->stB (Ch c k) (fun i=>f (sAt c k+i))=true
 pt : ∀ k,k<nC c->∀ j,j<kD c k->ptB (Ch c k) (fun i=>f (psC c k j+i))=true
def zC2(c:za)(k a:Nat):Prop:=k<nC c/\sAt c k<=a/\a<sAt c k+stg (Ch c k)
def zC0(c:za)(k j a:Nat):Prop:=k<nC c/\j<kD c k/\psC c k j<=a/\a<psC c k j+prt (Ch c k)
section
variable {c:za} (g:zaz c)
include g
theorem zxN{f f':Nat->Int}(hg:GoodW c f){k:Nat}(hk:k<nC c)(h:zlV (Ch c k) (sAt c k) (kD c k) (psC c k) f f'):GoodW c f':=by
 have key : ∀ k',k'<nC c->k' ≠ k->∀ i,cAt c k'<=i->i<cAt c (k'+1)->f' i=f i:=fun k' hk' hne i h1 h2=>by
  have hr:=zmR c hne
  refine h.out i ?_ fun j hj=>?_
  . have:=zhM c k
    have e:=zcd c k
    omega
  . have h3:=zi4 c hj
    have h4:=zi5 c k j
    have e:=zcd c k
    omega
 refine⟨h.u,fun k' hk'=>?_,fun k' hk' j hj=>?_⟩
 . by_cases e:k'=k
   . subst e;exact h.st
   . refine zcl (g.chan k' hk').1 (fun i hi=>?_) (hg.st k' hk')
     have h1:=zhM c k'
     have e1:=zcd c k'
     exact(key k' hk' e _ (by omega) (by omega)).symm
 . by_cases e:k'=k
   . subst e;exact h.pt j hj
   . refine zcg (g.chan k' hk').1 (fun i hi=>?_) (hg.pt k' hk' j hj)
     have h1:=zi4 c hj
     have h2:=zi5 c k' j
     have e1:=zcd c k'
     exact(key k' hk' e _ (by omega) (by omega)).symm
theorem zoF{f f':Nat->Int}(hg:GoodW c f){k:Nat}(hk:k<nC c)(h:zpU (stB (Ch c k)) (sAt c k) (stg (Ch c k)) f f'):GoodW c f':=by
 refine⟨h.u,fun k' hk'=>?_,fun k' hk' j hj=>?_⟩
 . by_cases e:k'=k
   . subst e;exact h.ok
   . refine zcl (g.chan k' hk').1 (fun i hi=>?_) (hg.st k' hk')
     have h1:=zhM c k'
     have h2:=zhM c k
     have e1:=zcd c k'
     have e2:=zcd c k
     have hr:=zmR c e
     exact(h.out _ (by omega)).symm
 . refine zcg (g.chan k' hk').1 (fun i hi=>?_) (hg.pt k' hk' j hj)
   have h1:=zi4 c hj
   have h2:=zi5 c k' j
   have h3:=zhM c k
   have e1:=zcd c k'
   have e2:=zcd c k
   by_cases e:k'=k
   . subst e;exact(h.out _ (by omega)).symm
   . have hr:=zmR c e
     exact(h.out _ (by omega)).symm
theorem zxM{f f':Nat->Int}(hg:GoodW c f){k j:Nat}(hk:k<nC c)(hj:j<kD c k)(h:zpU (ptB (Ch c k)) (psC c k j) (prt (Ch c k)) f f'):GoodW c f':=by
 have h1:=zi4 c hj
 have h2:=zi5 c k j
 have e2:=zcd c k
 refine⟨h.u,fun k' hk'=>?_,fun k' hk' j' hj'=>?_⟩
 . refine zcl (g.chan k' hk').1 (fun i hi=>?_) (hg.st k' hk')
   have h3:=zhM c k'
   have e1:=zcd c k'
   by_cases e:k'=k
   . subst e;exact(h.out _ (by omega)).symm
   . have hr:=zmR c e
     exact(h.out _ (by omega)).symm
 . by_cases e:k'=k
   . subst e
     by_cases ej:j'=j
     . subst ej;exact h.ok
     . refine zcg (g.chan k' hk').1 (fun i hi=>?_) (hg.pt k' hk' j' hj')
       have:=zOX c (k:=k') ej
       exact(h.out _ (by omega)).symm
   . refine zcg (g.chan k' hk').1 (fun i hi=>?_) (hg.pt k' hk' j' hj')
     have h3:=zi4 c hj'
     have h4:=zi5 c k' j'
     have e1:=zcd c k'
     have hr:=zmR c e
     exact(h.out _ (by omega)).symm
end
theorem zou(c:za)(q:Nat->Nat->Bool){p i:Nat} : ∀ n,p<n->i<zaa c p->q p i=true->(⟨(p:Int),(i:Int)⟩:LayoutEnd) ∈ zdT c q n
 | 0,h,_,_=>absurd h (by omega)
 | n+1,h,hi,hq=>by
  rw[zdT,List.mem_append]
  by_cases e:p=n
  . right
    subst e
    unfold zdC
    exact List.mem_map.2 ⟨i,List.mem_filter.2 ⟨qF.2 hi,hq⟩,rfl⟩
  . exact .inl (zou c q n (by omega) hi hq)
theorem zcV{c:za}{p q k:Nat}(hp:p<nP c)(hq:q<zaa c p)(hc:(Pt c p q).ql=(k:Int))(hs:(Pt c p q).qb=false) : ∃ j,j<kD c k/\zZ (dl c k) j=⟨(p:Int),(q:Int)⟩:=by
 have h:=zou c (zaY c (k:Int)) (p:=p) (i:=q) (nP c) hp hq (by unfold zaY;rw[hc,hs];simp)
 obtain ⟨j,hj,e⟩:=List.getElem_of_mem h
 refine⟨j,hj,?_⟩
 rw[← e]
 show((zdT c (zaY c (k:Int)) (nP c))[j]?).getD default=_
 rw[List.getElem?_eq_getElem hj];rfl
def win(f:Nat->Int)(a n i:Nat):Int:=if i<n then f (a+i)else 0
theorem zdo{f:Nat->Int}{a n i:Nat}(h:i<n):win f a n i=f (a+i):=if_pos h
theorem zuT{f g:Nat->Int}{a n:Nat}(h : ∀ i,a<=i->i<a+n->f i=g i):win f a n=win g a n:=funext fun i=>by
 unfold win
 split
 . exact h _ (by omega) (by omega)
 . rfl
theorem zCG{f:Nat->Int}(hf:U32 f)(a n:Nat):U32 (win f a n):=fun i=>by
 unfold win
 split
 . exact hf _
 . omega
theorem zmD(f:Nat->Int)(a n:Nat):over f a n (win f a n)=f:=funext fun i=>by
 unfold over
 split
 . rw[zdo (by omega),show a+(i-a)=i by omega]
 . rfl
section
variable {f g:Nat->Int} {W D:Nat}
theorem zsm{first i:Nat}{many:Int}(he : ∀ i,i<D*(1+W)->f i=g i)(hi:i<D)(hq:zf5 f W D first many=true):zhG f W D first i=zhG g W D first i:=by
 have h1:=Nat.mod_lt (first+i) (show D>0 by omega)
 have h2:((first+i) % D+1)*(1+W)<=D*(1+W):=Nat.mul_le_mul_right _ h1
 rw[Nat.add_mul,Nat.one_mul]at h2
 obtain ⟨⟨g1,_⟩,_⟩:=okQ_iff.1 (zlK hq hi)
 unfold zhG
 rw[← he ((first+i) % D*(1+W)) (by omega)]
 exact zbO fun j hj=>he _ (by omega)
theorem zmQ{first many:Nat}(he : ∀ i,i<D*(1+W)->f i=g i)(hm:many<=D)(hq:zf5 f W D first (many:Int)=true):zh9 f W D first many=zh9 g W D first many:=
 List.map_congr_left fun i hi=>zsm he (by have:=qF.1 hi;omega) hq
theorem zpD(he : ∀ i,i<1+D*(1+W)->f i=g i)(hf:U32 f)(h:zhw f W D=true):stM f W D=stM g W D:=by
 obtain ⟨h1,h2⟩:=qst_iff.1 h
 have h0:=hf 0
 unfold stM
 rw[← he 0 (by omega)]
 obtain ⟨n,hn⟩ : ∃ n:Nat,f 0=(n:Int):=⟨(f 0).toNat,by omega⟩
 rw[hn]at h1 h2 ⊢
 exact zmQ (fun i hi=>he _ (by omega)) (by omega) h2
theorem zoY(he : ∀ i,i<3+D*(1+W)->f i=g i)(hf:U32 f)(h:zeI f W D=true):ptM f W D=ptM g W D:=by
 obtain ⟨_,h1,_,h2⟩:=qpt_iff.1 h
 have h0:=hf 1
 unfold ptM
 rw[← he 0 (by omega),← he 1 (by omega)]
 obtain ⟨n,hn⟩ : ∃ n:Nat,f 1=(n:Int):=⟨(f 1).toNat,by omega⟩
 rw[hn]at h1 h2 ⊢
 exact zmQ (fun i hi=>he _ (by omega)) (by omega) h2
theorem zmg{h:Nat}(h2:h=2 ∨ h=3)(he : ∀ i,i<h+W->f i=g i):zbn f h W=zbn g h W:=by
 have e1:((List.range (h+W)).any fun i=>!(f i==0))=((List.range (h+W)).any fun i=>!(g i==0)):=zhN fun i hi=>by rw[he i hi]
 have e2:zfj f h W=zfj g h W:=by
  unfold zfj zet
  rw[he (h-1) (by omega),he 0 (by omega),he 1 (by omega)]
  congr 2
  exact congrArg _ (zhN fun i hi=>by rw[he _ (by omega)])
 unfold zbn
 rw[e1,e2]
 cases hb:zfj g h W with
 | false=>rfl
 | true=>
  rw[he (h-1) (by omega)]
  simp only[cnT]
  congr 1
  refine zbO fun i hi=>he _ ?_
  unfold zfj zet at hb
  simp only[qH,qG]at hb
  omega
end
def cW(x:zI):Nat:=x.qx.toNat
def cD(x:zI):Nat:=x.qy.toNat
def zdH(x:zI)(h:Nat->Int)(m:List Int):Bool × (Nat->Int):=
 if x.kind=2 then if(stM h (cW x) (cD x)).length=cD x then(false,h)else(true,zfS (cD x) (cW x) (stM h (cW x) (cD x)++[m]))
 else(true,zbL 2 m.length (hd2 m.length) (zt m))
def ztA(x:zI)(h:Nat->Int):Bool × (Nat->Int):=
 if(ptM h (cW x) (cD x)).length=0 then(false,h)else(true,zgv (cD x) (cW x) (((h 0).toNat+1) % cD x) (h 2) ((ptM h (cW x) (cD x)).drop 1))
structure Run(B:(Nat->Int)->Bool)(n:Nat)(h:Nat->Int):Prop where
 u : ∀ i,i<n->0<=h i/\h i<4294967296
 ok:B h=true
theorem Run.write{B:(Nat->Int)->Bool}{n:Nat}{h:Nat->Int}(r:Run B n h)(hB : ∀ f g:Nat->Int,(∀ i,i<n->f i=g i)->B f=true->B g=true){f:Nat->Int}(hf:U32 f)(a:Nat):zpU B a n f (over f a n h):=
 ⟨zeu hf r.u,hB _ _ (fun i hi=>(zhf hi).symm) r.ok,fun i hi=>zaB hi⟩
section
variable {F:Nat} {f:Nat->Int} (hf:U32 f) (hF:F<=1024) {x:zI} (hx:zbZ x) {a:Nat}
include hf hF hx
theorem zEg(hs:stB x (fun i=>f (a+i))=true):stB x (win f a (stg x))=true:=zcl hx (fun i hi=>(zdo hi).symm) hs
theorem zvQ(hs:ptB x (fun i=>f (a+i))=true):ptB x (win f a (prt x))=true:=zcg hx (fun i hi=>(zdo hi).symm) hs
theorem zsp(h2:x.kind=2):x.qx=(cW x:Int)/\x.qy=(cD x:Int)/\1<=cW x/\cW x<=16/\1<=cD x/\cD x<=8/\stg x=1+cD x*(1+cW x)/\prt x=3+cD x*(1+cW x)/\(∀ g,stB x g=zhw g (cW x) (cD x))/\∀ g,ptB x g=zeI g (cW x) (cD x):=by
 obtain ⟨w1,w2⟩:=hx.qx
 obtain ⟨d1,d2⟩:=hx.qy.1 h2
 exact⟨by unfold cW;omega,by unfold cD;omega,by unfold cW;omega,by unfold cW;omega,by unfold cD;omega,by unfold cD;omega,zww h2,zvP h2,fun g=>by unfold stB cW cD;rw[if_pos h2],fun g=>by unfold ptB cW cD;rw[if_pos h2]⟩
theorem zBg(h2:x.kind=1):x.qx=(cW x:Int)/\1<=cW x/\cW x<=16/\stg x=2+cW x/\prt x=3+cW x/\(∀ g,stB x g=zbP g 2 (cW x))/\∀ g,ptB x g=zbP g 3 (cW x):=by
 obtain ⟨w1,w2⟩:=hx.qx
 exact⟨by unfold cW;omega,by unfold cW;omega,by unfold cW;omega,zwv h2,zvO h2,fun g=>by unfold stB cW;rw[if_neg (by omega)],fun g=>by unfold ptB cW;rw[if_neg (by omega)]⟩
theorem zEa(h2:x.kind=2)(ha:a+stg x<=16*F)(hs:stB x (fun i=>f (a+i))=true){m:List Int}(hm:zcs (cW x) m)(l:List Int) :
 zkt ⟨⟨(a:Int),x.qx,l⟩,x.qy⟩ m (mk (16*F) f)=some ((zdH x (win f a (stg x)) m).1,0,⟨mk (16*F) (over f a (stg x) (zdH x (win f a (stg x)) m).2)⟩)/\Run (stB x) (stg x) (zdH x (win f a (stg x)) m).2:=by
 obtain ⟨hW,hD,w1,w2,d1,d2,eS,_,bS,_⟩:=zsp hf hF hx h2
 have hs0:=zEg hf hF hx hs
 have hwu:=zCG hf a (stg x)
 have em:stM (fun i=>f (a+i)) (cW x) (cD x)=stM (win f a (stg x)) (cW x) (cD x):=zpD (fun i hi=>(zdo (by omega)).symm) (hf.sh a) (by rw[← bS];exact hs)
 rw[bS]at hs
 obtain ⟨s1,s2,_⟩:=zrh (hf.sh a) hs
 have q1':zkw (a:Int) (cW x:Int) (cD x:Int) m (mk (16*F) f)=some _:=zJL hf (W:=cW x) (D:=cD x) (by omega) (by omega) (by omega) (by omega) (N:=16*F) (by omega) (by omega) hs hm
 unfold zkt zdH
 rw[if_pos h2]
 simp only[Tree.run,qY,hW,hD,q1',cnT,id]
 rw[em]at s1 s2 ⊢
 by_cases c:(stM (win f a (stg x)) (cW x) (cD x)).length=cD x
 . rw[if_pos c,if_pos c]
   exact⟨by rw[zmD],fun i _=>hwu i,hs0⟩
 . rw[if_neg c,if_neg c]
   have hms' : ∀ y ∈ stM (win f a (stg x)) (cW x) (cD x)++[m],zcs (cW x) y:=fun y hy=>by
    rcases List.mem_append.1 hy with h | h
    . exact s1 y h
    . rw[List.mem_singleton.1 h];exact hm
   have hl':(stM (win f a (stg x)) (cW x) (cD x)++[m]).length<=cD x:=by rw[List.length_append,qO];omega
   exact⟨by rw[eS],fun i hi=>ztv hms' hl' (by omega) (by omega) i,by rw[bS];exact zpE hms' hl'⟩
theorem zEb(h2:x.kind=1)(ha:a+stg x<=16*F)(hs:stB x (fun i=>f (a+i))=true){m:List Int}(hm:zcs (cW x) m)(l:List Int) :
 zkz ⟨⟨(a:Int),x.qx,l⟩⟩ m (mk (16*F) f)=some ((zdH x (win f a (stg x)) m).1,0,⟨mk (16*F) (over f a (stg x) (zdH x (win f a (stg x)) m).2)⟩)/\Run (stB x) (stg x) (zdH x (win f a (stg x)) m).2:=by
 obtain ⟨hW,w1,w2,eS,_,bS,_⟩:=zBg hf hF hx h2
 rw[bS]at hs
 obtain ⟨m1,m2,m3⟩:=hm
 have q1':=zJZ hf hF (a:=a) (W:=cW x) (by omega) (by omega) (by omega) m1 m2 (zt m) hs
 rw[← zFp (l:=m) rfl]at q1'
 unfold zkz zdH
 rw[if_neg (by omega)]
 simp only[Tree.run,qY,hW,q1',cnT,id]
 have hu:U32 (zbL 2 m.length (hd2 m.length) (zt m)):=fun i=>by
  unfold zbL hd2
  split
  . split
    . omega
    . constructor <;> omega
  . split
    . exact m3 _
    . omega
 exact⟨by rw[eS];rfl,fun i _=>hu i,by rw[bS];exact zo6 (.inl rfl) m1 m2 _ _ rfl (fun h=>absurd h (by decide)) rfl⟩
theorem zEo(h2:x.kind=2)(ha:a+prt x<=16*F)(hs:ptB x (fun i=>f (a+i))=true) :
 zij (a:Int) x.qx x.qy (mk (16*F) f)=some ((ztA x (win f a (prt x))).1,0,⟨mk (16*F) (over f a (prt x) (ztA x (win f a (prt x))).2)⟩)/\Run (ptB x) (prt x) (ztA x (win f a (prt x))).2:=by
 obtain ⟨hW,hD,w1,w2,d1,d2,_,eS,_,bS⟩:=zsp hf hF hx h2
 have hs0:=zvQ hf hF hx hs
 have hwu:=zCG hf a (prt x)
 have em:ptM (fun i=>f (a+i)) (cW x) (cD x)=ptM (win f a (prt x)) (cW x) (cD x):=zoY (fun i hi=>(zdo (by omega)).symm) (hf.sh a) (by rw[← bS];exact hs)
 rw[bS]at hs
 obtain ⟨s1,s2,_⟩:=zmK (hf.sh a) hs
 rw[hW,hD,zD7 hf (W:=cW x) (D:=cD x) (by omega) (by omega) (by omega) (by omega) (N:=16*F) (by omega) (by omega) hs]
 unfold ztA
 rw[em]at s1 s2 ⊢
 have e0:win f a (prt x) 0=f (a+0):=zdo (by omega)
 have e2:win f a (prt x) 2=f (a+2):=zdo (by omega)
 by_cases c:(ptM (win f a (prt x)) (cW x) (cD x)).length=0
 . rw[if_pos c,if_pos c]
   exact⟨by rw[zmD],fun i _=>hwu i,hs0⟩
 . rw[if_neg c,if_neg c,e0,e2]
   have hms' : ∀ y ∈ (ptM (win f a (prt x)) (cW x) (cD x)).drop 1,zcs (cW x) y:=fun y hy=>s1 y (List.mem_of_mem_drop hy)
   have hl':((ptM (win f a (prt x)) (cW x) (cD x)).drop 1).length<=cD x:=by rw[List.length_drop];omega
   have hfi:((f (a+0)).toNat+1) % cD x<cD x:=Nat.mod_lt _ (by omega)
   exact⟨by rw[eS],fun i hi=>zvN hms' hl' hfi (by omega) (by omega) (hf _) i,by rw[bS];exact zsA hms' hl' hfi⟩
theorem zEi(h2:x.kind=2)(l:List Int)(ha:a+stg x<=16*F)(hs:stB x (fun i=>f (a+i))=true) :
 zku ⟨⟨(a:Int),x.qx,l⟩,x.qy⟩ (mk (16*F) f)=some (((stM (win f a (stg x)) (cW x) (cD x)).length:Int),0,⟨mk (16*F) f⟩):=by
 obtain ⟨hW,hD,w1,w2,d1,d2,eS,_,bS,_⟩:=zsp hf hF hx h2
 have em:stM (fun i=>f (a+i)) (cW x) (cD x)=stM (win f a (stg x)) (cW x) (cD x):=zpD (fun i hi=>(zdo (by omega)).symm) (hf.sh a) (by rw[← bS];exact hs)
 rw[bS]at hs
 have q1':zkx (a:Int) (cW x:Int) (cD x:Int) (mk (16*F) f)=some _:=zx5 hf (W:=cW x) (D:=cD x) (by omega) (by omega) (by omega) (by omega) (N:=16*F) (by omega) (by omega) hs
 unfold zku
 simp only[Tree.run,qY,hW,hD,q1',cnT,id]
 rw[em]
end
def zdU(x:zI)(h:Nat->Int):List Int × Int × Bool:=
 if x.kind=2 then if(ptM h (cW x) (cD x)).length=0 then([],0,false)else(zW (ptM h (cW x) (cD x)) 0,(((ptM h (cW x) (cD x)).length-1:Nat):Int),true)
 else if(zbn h 3 (cW x)).length=0 then([],0,false)else(zbn h 3 (cW x),if h 1=1 then 1 else 0,true)
def zhV(x:zI)(h:Nat->Int):Int × Int:=
 if x.kind=2 then(((ptM h (cW x) (cD x)).length:Int),h 2)else(if(zbn h 3 (cW x)).length=0 then 0 else 1,if(zbn h 3 (cW x)).length=0 then 0 else if h 1=1 then 1 else 0)
section
variable {F:Nat} {f:Nat->Int} (hf:U32 f) (hF:F<=1024) {x:zI} (hx:zbZ x) {a:Nat}
include hf hF hx
theorem zvC(h2:x.kind=2)(s:Int)(l:List Int)(ha:a+prt x<=16*F)(hs:ptB x (fun i=>f (a+i))=true) :
 zks ⟨⟨s,x.qx,l⟩,x.qy⟩ (a:Int) (mk (16*F) f)=some ((zdU x (win f a (prt x))).1,(zdU x (win f a (prt x))).2.1,(zdU x (win f a (prt x))).2.2,0,⟨mk (16*F) f⟩)/\
  zkr ⟨⟨s,x.qx,l⟩,x.qy⟩ (a:Int) (mk (16*F) f)=some ((zhV x (win f a (prt x))).1,(zhV x (win f a (prt x))).2,0,⟨mk (16*F) f⟩):=by
 obtain ⟨hW,hD,w1,w2,d1,d2,_,eS,_,bS⟩:=zsp hf hF hx h2
 have em:ptM (fun i=>f (a+i)) (cW x) (cD x)=ptM (win f a (prt x)) (cW x) (cD x):=zoY (fun i hi=>(zdo (by omega)).symm) (hf.sh a) (by rw[← bS];exact hs)
 rw[bS]at hs
 have e2:win f a (prt x) 2=f (a+2):=zdo (by omega)
 obtain ⟨_,s2,_⟩:=zmK (hf.sh a) hs
 have q1':zkv (a:Int) (cW x:Int) (cD x:Int) (mk (16*F) f)=some _:=zD6 hf (W:=cW x) (D:=cD x) (by omega) (by omega) (by omega) (by omega) (N:=16*F) (by omega) (by omega) hs
 have c1':zim (a:Int) (cW x:Int) (cD x:Int) (mk (16*F) f)=some _:=zBG hf (W:=cW x) (D:=cD x) (by omega) (by omega) (by omega) (by omega) (N:=16*F) (by omega) (by omega) hs
 rw[em]at s2 q1' c1'
 unfold zdU zhV
 rw[if_pos h2,if_pos h2,e2]
 have hn : ∀ n:Nat,n<=8->u32.wrap (n:Int)=(n:Int):=fun n hn=>zbR (by omega) (by omega)
 constructor
 . unfold zks
   simp only[Tree.run0,Tree.run,qY,hW,hD,q1',c1',cnT,id,qI,Bool.not_true,cnF]
   by_cases c:(ptM (win f a (prt x)) (cW x) (cD x)).length=0
   . rw[if_pos c,decide_eq_false (show ¬ 1<=(ptM (win f a (prt x)) (cW x) (cD x)).length by omega)]
     rfl
   . rw[if_neg c,decide_eq_true (show 1<=(ptM (win f a (prt x)) (cW x) (cD x)).length by omega)]
     have e3:i64.wrap (((ptM (win f a (prt x)) (cW x) (cD x)).length:Int)-1)=(((ptM (win f a (prt x)) (cW x) (cD x)).length-1:Nat):Int):=zz _ _ (by omega) (by omega)
     simp only[Bool.not_true,cnF]
     rw[e3,hn _ (by omega)]
 . unfold zkr
   simp only[Tree.run0,Tree.run,qY,hW,hD,c1',cnT,id]
   rw[hn _ (by omega)]
theorem zEj(h2:x.kind=1)(l:List Int)(ha:a+stg x<=16*F)(hs:stB x (fun i=>f (a+i))=true) :
 znu ⟨⟨(a:Int),x.qx,l⟩⟩ (some ⟨mk (16*F) f⟩)=some (mn (zbn (win f a (stg x)) 2 (cW x)).length 1,0):=by
 obtain ⟨hW,w1,w2,eS,_,bS,_⟩:=zBg hf hF hx h2
 rw[bS]at hs
 have k1:=zjx hf (N:=16*F) (by omega) (h:=2) (.inl rfl) (W:=cW x) (by omega) (a:=a) (by omega)
 rw[hs,zmg (.inl rfl) (g:=win f a (stg x)) fun i hi=>(zdo (by omega)).symm]at k1
 have k1':zc3 (some ⟨mk (16*F) f⟩) (a:Int) (cW x:Int) 2=some (zbn (win f a (stg x)) 2 (cW x),0):=k1
 unfold znu zuM
 simp only[Tree.run0,Tree.run,qY,hW,zvG hf _ (by omega) (by omega),qI,Bool.not_true,cnF,k1']
theorem zvD(h2:x.kind=1)(s:Int)(l:List Int)(ha:a+prt x<=16*F)(hs:ptB x (fun i=>f (a+i))=true) :
 zgR ⟨⟨s,x.qx,l⟩⟩ (some ⟨mk (16*F) f⟩) (a:Int)=some ((zdU x (win f a (prt x))).1,(zdU x (win f a (prt x))).2.1,(zdU x (win f a (prt x))).2.2,0)/\
  znt ⟨⟨s,x.qx,l⟩⟩ (some ⟨mk (16*F) f⟩) (a:Int)=some ((zhV x (win f a (prt x))).1,(zhV x (win f a (prt x))).2,0):=by
 obtain ⟨hW,w1,w2,_,eS,_,bS⟩:=zBg hf hF hx h2
 have hk : ¬ x.kind=2:=by omega
 rw[bS]at hs
 have k1:=zjx hf (N:=16*F) (by omega) (h:=3) (.inr rfl) (W:=cW x) (by omega) (a:=a) (by omega)
 rw[hs,zmg (.inr rfl) (g:=win f a (prt x)) fun i hi=>(zdo (by omega)).symm]at k1
 have k1':zc3 (some ⟨mk (16*F) f⟩) (a:Int) (cW x:Int) 3=some (zbn (win f a (prt x)) 3 (cW x),0):=k1
 have e1:i64.wrap ((a:Int)+1)=((a+1:Nat):Int):=zj a (by omega)
 have r1':zeE (some ⟨mk (16*F) f⟩) ((a+1:Nat):Int)=some (f (a+1),0):=zkd (f:=f) (N:=16*F) (a:=a+1) (by omega) (by omega)
 have e2:win f a (prt x) 1=f (a+1):=zdo (by omega)
 have hL:zgR ⟨⟨s,(cW x:Int),l⟩⟩ (some ⟨mk (16*F) f⟩) (a:Int)=some ((zdU x (win f a (prt x))).1,(zdU x (win f a (prt x))).2.1,(zdU x (win f a (prt x))).2.2,0):=by
  unfold zgR zuL zdU zsI
  simp only[Tree.run0,Tree.run,Tree.val,qY,hW,zvG hf _ (by omega) (by omega),qI,Bool.not_true,cnF,k1',e1,r1',e2]
  rw[if_neg hk]
  by_cases c:(zbn (win f a (prt x)) 3 (cW x)).length=0
  . rw[if_pos c,c];rfl
  . rw[if_neg c]
    have:(((zbn (win f a (prt x)) 3 (cW x)).length:Int)==0)=false:=nz c
    rw[this]
    simp only[cnF,qY]
    by_cases c1:f (a+1)=1
    . rw[c1];rfl
    . have:(f (a+1)==1)=false:=by simpa using c1
      rw[this,if_neg c1];rfl
 refine⟨by rw[hW];exact hL,?_⟩
 have l1':zgR ⟨⟨s,(cW x:Int),l⟩⟩ (some ⟨mk (16*F) f⟩) (a:Int)=some _:=hL
 unfold znt zsI
 simp only[Tree.run0,Tree.run,Tree.val,qY,hW,l1']
 unfold zdU zhV
 rw[if_neg hk,if_neg hk]
 by_cases c:(zbn (win f a (prt x)) 3 (cW x)).length=0
 . simp only[if_pos c];rfl
 . simp only[if_neg c];rfl
end
structure zod(c:za)(D:zG):Prop where
 qr:D.c.qr=c.qr
 chans:D.c.qw=c.qw
 len:D.c.qq.length=nP c
 qt : ∀ p,p<nP c->(zb D.c.qq p).qt=(P c p).qt
 lay:D.lay=lay c
noncomputable def zRb(c:za)(k:Nat)(f:Nat->Int):Nat->Int:=zjz (Ch c k) (sAt c k) (kD c k) (psC c k) f
noncomputable def zbg(c:za)(f:Nat->Int):Nat->Nat->Int
 | 0=>f
 | k+1=>zRb c k (zbg c f k)
section
variable {c:za} (g:zaz c) (w:zei c) {D:zG} (hD:zod c D)
include g w hD
theorem zun{k:Nat}(hk:k<nC c):zH D.lay.qw k=zxy c k/\D.lay.qw.length=nC c:=by
 rw[hD.lay]
 exact⟨zG7 hk,by show(chL c (nC c)).length=_;simp[chL]⟩
theorem zjE{f:Nat->Int}(hf:U32 f):zlj (some D) (some ⟨mk (nW c) f⟩)=some 0:=by
 have hF:=g.qr
 have k1':zdJ (some ⟨mk (nW c) f⟩)=some ((c.qr.toNat:Nat):Int):=zfh hf c.qr.toNat (by omega)
 unfold zlj
 have e:((c.qr.toNat:Nat):Int)=c.qr:=by omega
 simp only[Tree.run0,Tree.run,k1',qY,qP,qS,qA,hD.qr,e,cnT,cnF,qI,Bool.not_true]
noncomputable def zbk(c:za)(p q:Int):Option zb9:=if 0<=p/\p<(nP c:Int)/\0<=q/\q<(zaa c p.toNat:Int)then some (Pt c p.toNat q.toNat)else none
theorem zg7(p q:Int):zhL (some D) p q=some (match zbk c p q with | some x=>(x,true) | none=>(⟨0,false⟩,false)):=by
 unfold zhL zbk
 simp only[Tree.run0,Tree.run,qP,qS,qA,cnT,cnF,hD.len]
 by_cases c1:p<0
 . rw[decide_eq_true c1,cnT,if_neg (by omega)]
 . rw [decide_eq_false c1,cnF]
   obtain ⟨p',rfl⟩ : ∃ p':Nat,p=(p':Int):=⟨p.toNat,by omega⟩
   by_cases c2:(p':Int)>=(nP c:Int)
   . rw[decide_eq_true c2,cnT,if_neg (by omega)]
   . have hp:p'<nP c:=by omega
     rw[decide_eq_false c2,cnF]
     by_cases c3:q<0
     . rw[decide_eq_true c3,cnT,if_neg (by omega)]
     . rw[decide_eq_false c3,cnF,zo hp,cnT]
       obtain ⟨q',rfl⟩ : ∃ q':Nat,q=(q':Int):=⟨q.toNat,by omega⟩
       simp only[tnC,hD.qt p' hp]
       have hl:(P c p').qt.length=zaa c p':=rfl
       by_cases c4:(q':Int)>=((P c p').qt.length:Int)
       . rw[decide_eq_true c4,cnT,if_neg (by omega)]
       . have hq:q'<(P c p').qt.length:=by omega
         rw[decide_eq_false c4,cnF,zo hq,cnT,if_pos (by omega)];rfl
theorem za6{p q:Int}{x:zb9}(h:zbk c p q=some x) : ∃ p' q' k:Nat,p=(p':Int)/\q=(q':Int)/\p'<nP c/\q'<zaa c p'/\x=Pt c p' q'/\x.ql=(k:Int)/\k<nC c:=by
 unfold zbk at h
 split at h
 . rename_i hc
   cases h
   have hp:p.toNat<nP c:=by omega
   have hq:q.toNat<zaa c p.toNat:=by omega
   have h:=g.port p.toNat q.toNat hp hq
   refine⟨p.toNat,q.toNat,(Pt c p.toNat q.toNat).ql.toNat,by omega,by omega,hp,hq,rfl,by omega,?_⟩
   have:(nC c:Int)=c.qw.length:=rfl
   omega
 . cases h
theorem zqi{k:Nat}(hk:k<nC c):(zxy c k).qa.length=kD c k/\∀ j,j<kD c k->zcI (zxy c k).qa j=⟨(zZ (dl c k) j).qk,(zZ (dl c k) j).port,(psC c k j:Int)⟩:=⟨zgh _ _ _,fun j hj=>zkR _ _ _ _ hj⟩
noncomputable def rowOf(c:za)(k:Nat):zbA:=⟨⟨(sAt c k:Int),(Ch c k).qx,mk (kD c k) fun j=>(psC c k j:Int)⟩,(Ch c k).qy⟩
noncomputable def zh3(c:za)(k:Nat):zbd:=⟨⟨(sAt c k:Int),(Ch c k).qx,mk (kD c k) fun j=>(psC c k j:Int)⟩⟩
theorem zgd{k:Nat}(hk:k<nC c):zju (some D) (k:Int)=if(Ch c k).kind=2 then some (rowOf c k)else none:=by
 obtain ⟨l1,l2⟩:=zun g w hD hk
 obtain ⟨d1,d2⟩:=zqi g w hD hk
 obtain ⟨n1,n2⟩:=zvz g w hk
 have hl:=zK (n:=kD c k) (f:=fun i (xs:List Int)=>zsY (some D) (k:Int) (.l0 (i:Int) xs)) (S:=fun i=>mk i fun j=>(psC c k j:Int)) (fun i hi=>by
  rw[zsZ]
  simp only[zvd,qP,tnC,l1,d1,zY hi,cnT,zo hi,d2 i hi,zP,qO,zaZ (show(i+1)*8<=140737488355328 by omega),zj i (show i<4611686018427387904 by omega),Tree.run]
  rw[zqy i fun j=>(psC c k j:Int)])
 unfold zju zE3
 simp only[Tree.run,qP,qA,cnT,hD.chans,l2,zo (show k<c.qw.length from hk),zo hk]
 refine(show zsY (some D) (k:Int) (.l0 0 [])=_ from hl).trans ?_
 rw[zsZ]
 simp only[zvd,qP,tnC,l1,d1,z8 (qD),cnF,hD.chans,Tree.run]
 by_cases h2:(Ch c k).kind=2
 . rw[if_pos h2,show(zw c.qw k).kind=2 from h2];rfl
 . rw[if_neg h2]
   have h3 : ¬ (zw c.qw k).kind=2:=h2
   have:((zw c.qw k).kind==2)=false:=by simpa using h3
   rw[this];rfl
theorem zjR{k:Nat}(hk:k<nC c)(h2:(Ch c k).kind=1):zck (some D) (k:Int)=some (zh3 c k):=by
 obtain ⟨l1,l2⟩:=zun g w hD hk
 obtain ⟨d1,d2⟩:=zqi g w hD hk
 obtain ⟨n1,n2⟩:=zvz g w hk
 have e2:(zw c.qw k).kind=1:=h2
 have hl:=zK (n:=kD c k) (f:=fun i (xs:List Int)=>zfm (some D) (k:Int) (.l0 (i:Int) xs)) (S:=fun i=>mk i fun j=>(psC c k j:Int)) (fun i hi=>by
  rw[zi9]
  simp only[zg5,qP,tnC,l1,d1,zY hi,cnT,zo hi,d2 i hi,zP,qO,zaZ (show(i+1)*8<=140737488355328 by omega),zj i (show i<4611686018427387904 by omega),Tree.run]
  rw[zqy i fun j=>(psC c k j:Int)])
 unfold zck zox
 simp only[Tree.run,qP,qA,cnT,hD.chans,l2,zo (show k<c.qw.length from hk),zo hk]
 refine(show zfm (some D) (k:Int) (.l0 0 [])=_ from hl).trans ?_
 rw[zi9]
 simp only[zg5,qP,tnC,l1,d1,z8 (qD),cnF,hD.chans,e2,show((1:Int)==2)=false from rfl,Tree.run]
 rfl
noncomputable def zcC(c:za)(k:Nat)(p q:Int):Nat:=(dl c k).findIdx fun e=>e==⟨p,q⟩
theorem zp0{p q k:Nat}(hk:k<nC c)(h : ∃ j,j<kD c k/\zZ (dl c k) j=⟨(p:Int),(q:Int)⟩):zcC c k p q<kD c k/\zZ (dl c k) (zcC c k p q)=⟨(p:Int),(q:Int)⟩/\zgM (some D) (p:Int) (q:Int) (k:Int)=some (psC c k (zcC c k p q):Int):=by
 obtain ⟨l1,l2⟩:=zun g w hD hk
 obtain ⟨d1,d2⟩:=zqi g w hD hk
 obtain ⟨n1,n2⟩:=zvz g w hk
 have hget : ∀ j,j<kD c k->∀ h',(dl c k)[j]'h'=zZ (dl c k) j:=fun j hj h'=>by
  show _=((dl c k)[j]?).getD default
  rw[List.getElem?_eq_getElem h'];rfl
 have hlt:zcC c k p q<(dl c k).length:=by
  obtain ⟨j,h1,h2⟩:=h
  have h1':j<(dl c k).length:=h1
  refine List.findIdx_lt_length_of_exists ⟨(dl c k)[j],List.getElem_mem _,?_⟩
  rw[hget j h1 h1',h2];simp
 have hat:zZ (dl c k) (zcC c k p q)=⟨(p:Int),(q:Int)⟩:=by
  have:=List.findIdx_getElem (w:=hlt)
  exact(hget _ hlt hlt).symm.trans (eq_of_beq this)
 refine⟨hlt,hat,?_⟩
 have key : ∀ r i,i+r=zcC c k p q->zif (some D) (p:Int) (q:Int) (k:Int) (.l0 (i:Int))=some (psC c k (zcC c k p q):Int):=by
  have step : ∀ i,i<kD c k->zif (some D) (p:Int) (q:Int) (k:Int) (.l0 (i:Int))=cond ((zZ (dl c k) i).qk==(p:Int)) (cond ((zZ (dl c k) i).port==(q:Int)) (some (psC c k i:Int)) (zif (some D) (p:Int) (q:Int) (k:Int) (.l0 ((i+1:Nat):Int)))) (zif (some D) (p:Int) (q:Int) (k:Int) (.l0 ((i+1:Nat):Int))):=fun i hik=>by
   rw[zym]
   simp only[ztU,qP,tnC,l1,d1,zY hik,cnT,zo hik,d2 i hik,zj i (show i<4611686018427387904 by omega),Tree.run]
  intro r
  induction r with
  | zero=>
   intro i hi
   obtain rfl:i=zcC c k p q:=by omega
   rw[step _ hlt,hat];simp
  | succ r ih=>
   intro i hi
   have hik:i<kD c k:=by have:kD c k=(dl c k).length:=rfl;omega
   have hne : ¬ zZ (dl c k) i=⟨(p:Int),(q:Int)⟩:=fun e=>by
    have:=List.not_of_lt_findIdx (p:=fun e:LayoutEnd=>e==⟨(p:Int),(q:Int)⟩) (xs:=dl c k) (i:=i) (show i<zcC c k p q by omega)
    have e':(dl c k)[i]'(Nat.lt_trans (show i<zcC c k p q by omega) hlt)=⟨(p:Int),(q:Int)⟩:=(hget i hik _).trans e
    rw[e']at this
    simp at this
   rw[step i hik]
   have a3:=ih (i+1) (by omega)
   rw[a3]
   cases b1:(zZ (dl c k) i).qk==(p:Int)with
   | false=>rfl
   | true=>
    cases b2:(zZ (dl c k) i).port==(q:Int)with
    | false=>rfl
    | true=>exact absurd (LayoutEnd.ext (eq_of_beq b1) (eq_of_beq b2)) hne
 unfold zgM zz8
 simp only[Tree.run,qP,qA,cnT,l2,zo hk]
 exact key (zcC c k p q) 0 (Nat.zero_add _)
end
theorem zhI{R α:Type}(x:R)(k:R->Option α)(z:Option α):orB (some x) k z=k x:=rfl
theorem zgu{R α:Type}(k:R->Option α)(z:Option α):orB none k z=z:=rfl
noncomputable def stW(c:za)(f:Nat->Int)(k:Nat):Nat->Int:=win f (sAt c k) (stg (Ch c k))
noncomputable def ptW(c:za)(f:Nat->Int)(k j:Nat):Nat->Int:=win f (psC c k j) (prt (Ch c k))
noncomputable def zc0(c:za)(p q:Int):Int × Int:=match zbk c p q with
 | none=>(0,1)
 | some x=>cond x.qb ((Ch c x.ql.toNat).qx,0) (0,2)
noncomputable def zye(c:za)(k:Nat)(m:List Int)(f:Nat->Int):Int × (Nat->Int):=
 (cond (zdH (Ch c k) (stW c f k) m).1 0 5,over f (sAt c k) (stg (Ch c k)) (zdH (Ch c k) (stW c f k) m).2)
noncomputable def zgC(c:za)(p q:Int)(m:List Int)(f:Nat->Int):Int × (Nat->Int):=match zbk c p q with
 | none=>(1,f)
 | some x=>cond x.qb (if m.length=0 ∨ (m.length:Int)>(Ch c x.ql.toNat).qx then(3,f)else zye c x.ql.toNat m f) (2,f)
noncomputable def zfw(c:za)(p q:Int)(f:Nat->Int):Nat->Int:=match zbk c p q with
 | none=>f
 | some x=>cond x.qb f (if(Ch c x.ql.toNat).kind=2 then over f (psC c x.ql.toNat (zcC c x.ql.toNat p q)) (prt (Ch c x.ql.toNat)) (ztA (Ch c x.ql.toNat) (ptW c f x.ql.toNat (zcC c x.ql.toNat p q))).2 else f)
noncomputable def zcw(c:za)(p q:Int)(f:Nat->Int):Int × List Int × Int:=match zbk c p q with
 | none=>(1,[],0)
 | some x=>cond x.qb (2,[],0) (let r:=zdU (Ch c x.ql.toNat) (ptW c f x.ql.toNat (zcC c x.ql.toNat p q));cond r.2.2 (0,r.1,r.2.1) (6,[],0))
noncomputable def zrj(c:za)(k:Nat)(f:Nat->Int):Int:=if(Ch c k).kind=2 then((stM (stW c f k) (cW (Ch c k)) (cD (Ch c k))).length:Int)else mn (zbn (stW c f k) 2 (cW (Ch c k))).length 1
noncomputable def zhA(c:za)(p q:Int)(f:Nat->Int):Int × Int × Int:=match zbk c p q with
 | none=>(1,0,0)
 | some x=>cond x.qb (0,u32.wrap (zrj c x.ql.toNat f),0) (let r:=zhV (Ch c x.ql.toNat) (ptW c f x.ql.toNat (zcC c x.ql.toNat p q));(0,r.1,r.2))
structure zyJ(c:za)(p:Int)(f:Nat->Int):Prop where
 u:U32 f
 st : ∀ p' q k:Nat,p=(p':Int)->p'<nP c->q<zaa c p'->(Pt c p' q).ql=(k:Int)->(Pt c p' q).qb=true->k<nC c->stB (Ch c k) (fun i=>f (sAt c k+i))=true
 pt : ∀ p' q k:Nat,p=(p':Int)->p'<nP c->q<zaa c p'->(Pt c p' q).ql=(k:Int)->(Pt c p' q).qb=false->k<nC c->ptB (Ch c k) (fun i=>f (psC c k (zcC c k p' q)+i))=true
section
variable {c:za} (g:zaz c) (w:zei c) {D:zG} (hD:zod c D)
include g w hD
theorem GoodW.part{f:Nat->Int}(hg:GoodW c f)(p:Int):zyJ c p f:=
 ⟨hg.u,fun p' q k _ _ _ _ _ hk=>hg.st k hk,fun p' q k _ hp hq hc hs hk=>hg.pt k hk _ (zp0 g w hD hk (zcV hp hq hc hs)).1⟩
theorem zBT(p q:Int):zpB (some D) p q=some (zc0 c p q):=by
 unfold zpB zc0
 simp only[Tree.run0,Tree.run,zg7 g w hD,qY,qS,cnF]
 cases hp:zbk c p q with
 | none=>rfl
 | some x=>
  obtain ⟨p',q',k,_,_,_,_,_,hk1,hk⟩:=za6 g w hD hp
  cases hs:x.qb with
  | false=>simp only[Bool.not_true,cnF,hs,Bool.not_false,cnT]
  | true=>
   simp only[Bool.not_true,cnF,hs,qA,cnT,qP,hD.chans,hk1,zo (show k<c.qw.length from hk),tnC]
   rfl
theorem zwG:c.qr.toNat<=1024:=by have:=g.qr;omega
theorem zws{k:Nat}(hk:k<nC c):sAt c k+stg (Ch c k)<=nW c:=(zdb g w hk).qn
theorem zoZ{k j:Nat}(hk:k<nC c)(hj:j<kD c k):psC c k j+prt (Ch c k)<=nW c:=(zdb g w hk).port j hj
variable {f:Nat->Int} {p:Int} (hg:zyJ c p f)
include hg
theorem zBX(q:Int){m:List Int}(hm : ∀ j,0<=zt m j/\zt m j<4294967296):znd (some D) p q m (mk (nW c) f)=some ((zgC c p q m f).1,0,⟨mk (nW c) (zgC c p q m f).2⟩)/\(GoodW c f->GoodW c (zgC c p q m f).2):=by
 have hF:=zwG g w hD
 unfold znd zgC
 simp only[Tree.run0,Tree.run,zjE g w hD hg.u,zBT g w hD,zg7 g w hD,qY,qI,Bool.not_true,cnF]
 unfold zc0
 cases hp:zbk c p q with
 | none=>exact⟨rfl,id⟩
 | some x=>
  obtain ⟨p',q',k,rfl,rfl,hp',hq',rfl,hk1,hk⟩:=za6 g w hD hp
  cases hs:(Pt c p' q').qb with
  | false=>simp only[hs,cnF];exact⟨rfl,id⟩
  | true =>
   simp only[hs,cnT,qI,Bool.not_true,cnF,hk1,tnC,zgd g w hD hk]
   by_cases c1:m.length=0
   . have:((m.length:Int)==0)=true:=by rw[c1];rfl
     rw[this,if_pos (show m.length=0 ∨ (m.length:Int)>(Ch c k).qx from .inl c1)]
     exact⟨rfl,id⟩
   . rw [nz c1,cnF]
     by_cases c2:(m.length:Int)>(Ch c k).qx
     . rw[decide_eq_true c2,if_pos (show m.length=0 ∨ (m.length:Int)>(Ch c k).qx from .inr c2)]
       exact⟨rfl,id⟩
     . rw[decide_eq_false c2,cnF,if_neg (show ¬ (m.length=0 ∨ (m.length:Int)>(Ch c k).qx)from fun h=>h.elim c1 c2)]
       have hx:=(g.chan k hk).1
       have hmo:zcs (cW (Ch c k)) m:=⟨by omega,by have:=hx.qx;unfold cW;omega,hm⟩
       rcases hx.kind with h1 | h2
       . obtain ⟨s1,s2⟩:=zEb hg.u hF hx h1 (zws g w hD hk) (hg.st p' q' k rfl hp' hq' hk1 hs hk) hmo (mk (kD c k) fun j=>(psC c k j:Int))
         have s1':zkz (zh3 c k) m (mk (nW c) f)=_:=s1
         rw[if_neg (by omega)]
         simp only[zgu,zjR g w hD hk h1,qY,s1',qI,cnT]
         refine⟨?_,fun hG=>zoF g hG hk (s2.write (fun f g e h=>zcl hx e h) hg.u _)⟩
         unfold zye stW
         cases (zdH (Ch c k) (win f (sAt c k) (stg (Ch c k))) m).1 <;> rfl
       . obtain ⟨s1,s2⟩:=zEa hg.u hF hx h2 (zws g w hD hk) (hg.st p' q' k rfl hp' hq' hk1 hs hk) hmo (mk (kD c k) fun j=>(psC c k j:Int))
         have s1':zkt (rowOf c k) m (mk (nW c) f)=_:=s1
         rw[if_pos h2]
         simp only[zhI,qY,s1',qI,cnT]
         refine⟨?_,fun hG=>zoF g hG hk (s2.write (fun f g e h=>zcl hx e h) hg.u _)⟩
         unfold zye stW
         cases (zdH (Ch c k) (win f (sAt c k) (stg (Ch c k))) m).1 <;> rfl
theorem zCD(q:Int):znf (some D) p q (mk (nW c) f)=some (0,⟨mk (nW c) (zfw c p q f)⟩)/\(GoodW c f->GoodW c (zfw c p q f)):=by
 have hF:=zwG g w hD
 unfold znf zfw
 simp only[Tree.run0,Tree.run,zjE g w hD hg.u,zg7 g w hD,qY,qI,Bool.not_true,cnF]
 cases hp:zbk c p q with
 | none=>exact⟨rfl,id⟩
 | some x=>
  obtain ⟨p',q',k,rfl,rfl,hp',hq',rfl,hk1,hk⟩:=za6 g w hD hp
  cases hs:(Pt c p' q').qb with
  | true=>simp only[hs,cnT];exact⟨rfl,id⟩
  | false=>
   simp only[hs,Bool.not_true,cnF,hk1,tnC,zgd g w hD hk]
   have hx:=(g.chan k hk).1
   obtain ⟨b1,b2,b3⟩:=zp0 g w hD hk (zcV hp' hq' hk1 hs)
   rcases hx.kind with h1 | h2
   . rw[if_neg (by omega),if_neg (by omega)]
     simp only[zgu,zjR g w hD hk h1,qY]
     exact⟨trivial,id⟩
   . obtain ⟨s1,s2⟩:=zEo hg.u hF hx h2 (zoZ g w hD hk b1) (hg.pt p' q' k rfl hp' hq' hk1 hs hk)
     have s1':zij (psC c k (zcC c k (p':Int) (q':Int)):Int) (Ch c k).qx (Ch c k).qy (mk (nW c) f)=_:=s1
     rw[if_pos h2,if_pos h2]
     simp only[zhI,qY,b3,rowOf,s1']
     exact⟨rfl,fun hG=>zxM g hG hk b1 (s2.write (fun f g e h=>zcg hx e h) hg.u _)⟩
theorem zHX(q:Int):zne (some D) p q (mk (nW c) f)=some ((zcw c p q f).1,(zcw c p q f).2.1,(zcw c p q f).2.2,0,⟨mk (nW c) f⟩):=by
 have hF:=zwG g w hD
 unfold zne zcw
 simp only[Tree.run0,Tree.run,zjE g w hD hg.u,zg7 g w hD,qY,qI,Bool.not_true,cnF]
 cases hp:zbk c p q with
 | none=>rfl
 | some x=>
  obtain ⟨p',q',k,rfl,rfl,hp',hq',rfl,hk1,hk⟩:=za6 g w hD hp
  cases hs:(Pt c p' q').qb with
  | true=>simp only[hs,cnT];rfl
  | false=>
   simp only[hs,Bool.not_true,cnF,hk1,tnC,zgd g w hD hk]
   have hx:=(g.chan k hk).1
   obtain ⟨b1,b2,b3⟩:=zp0 g w hD hk (zcV hp' hq' hk1 hs)
   unfold ptW
   rcases hx.kind with h1 | h2
   . obtain ⟨s1,_⟩:=zvD hg.u hF hx h1 (sAt c k:Int) (mk (kD c k) fun j=>(psC c k j:Int)) (zoZ g w hD hk b1) (hg.pt p' q' k rfl hp' hq' hk1 hs hk)
     have s1':zgR (zh3 c k) (some ⟨mk (nW c) f⟩) (psC c k (zcC c k (p':Int) (q':Int)):Int)=_:=s1
     rw[if_neg (by omega)]
     simp only[zgu,zjR g w hD hk h1,qY,b3,s1',qI,Bool.not_true,cnF]
     cases (zdU (Ch c k) (win f (psC c k (zcC c k (p':Int) (q':Int))) (prt (Ch c k)))).2.2 <;> rfl
   . obtain ⟨s1,_⟩:=zvC hg.u hF hx h2 (sAt c k:Int) (mk (kD c k) fun j=>(psC c k j:Int)) (zoZ g w hD hk b1) (hg.pt p' q' k rfl hp' hq' hk1 hs hk)
     have s1':zks (rowOf c k) (psC c k (zcC c k (p':Int) (q':Int)):Int) (mk (nW c) f)=_:=s1
     rw[if_pos h2]
     simp only[zhI,qY,b3,s1',qI,Bool.not_true,cnF]
     cases (zdU (Ch c k) (win f (psC c k (zcC c k (p':Int) (q':Int))) (prt (Ch c k)))).2.2 <;> rfl
theorem zCn(q:Int):zng (some D) p q (mk (nW c) f)=some ((zhA c p q f).1,(zhA c p q f).2.1,(zhA c p q f).2.2,0,⟨mk (nW c) f⟩):=by
 have hF:=zwG g w hD
 unfold zng zhA
 simp only[Tree.run0,Tree.run,zjE g w hD hg.u,zg7 g w hD,qY,qI,Bool.not_true,cnF]
 cases hp:zbk c p q with
 | none=>rfl
 | some x=>
  obtain ⟨p',q',k,rfl,rfl,hp',hq',rfl,hk1,hk⟩:=za6 g w hD hp
  simp only[Bool.not_true,cnF,hk1,tnC,zgd g w hD hk]
  have hx:=(g.chan k hk).1
  unfold zrj ptW stW
  rcases hx.kind with h1 | h2
  . rw[if_neg (by omega),if_neg (by omega)]
    simp only[zgu,zjR g w hD hk h1,qY]
    cases hs:(Pt c p' q').qb with
    | true=>
     have s1':znu (zh3 c k) (some ⟨mk (nW c) f⟩)=_:=zEj hg.u hF hx h1 (mk (kD c k) fun j=>(psC c k j:Int)) (zws g w hD hk) (hg.st p' q' k rfl hp' hq' hk1 hs hk)
     simp only[cnT,s1',qY]
    | false=>
     obtain ⟨b1,b2,b3⟩:=zp0 g w hD hk (zcV hp' hq' hk1 hs)
     obtain ⟨_,s1⟩:=zvD hg.u hF hx h1 (sAt c k:Int) (mk (kD c k) fun j=>(psC c k j:Int)) (zoZ g w hD hk b1) (hg.pt p' q' k rfl hp' hq' hk1 hs hk)
     have s1':znt (zh3 c k) (some ⟨mk (nW c) f⟩) (psC c k (zcC c k (p':Int) (q':Int)):Int)=_:=s1
     simp only[cnF,b3,s1',qY,qI,Bool.not_true]
  . rw[if_pos h2,if_pos h2]
    simp only[zhI,qY]
    cases hs:(Pt c p' q').qb with
    | true=>
     have s1':zku (rowOf c k) (mk (nW c) f)=_:=zEi hg.u hF hx h2 (mk (kD c k) fun j=>(psC c k j:Int)) (zws g w hD hk) (hg.st p' q' k rfl hp' hq' hk1 hs hk)
     simp only[cnT,s1',qY]
     rfl
    | false=>
     obtain ⟨b1,b2,b3⟩:=zp0 g w hD hk (zcV hp' hq' hk1 hs)
     obtain ⟨_,s1⟩:=zvC hg.u hF hx h2 (sAt c k:Int) (mk (kD c k) fun j=>(psC c k j:Int)) (zoZ g w hD hk b1) (hg.pt p' q' k rfl hp' hq' hk1 hs hk)
     have s1':zkr (rowOf c k) (psC c k (zcC c k (p':Int) (q':Int)):Int) (mk (nW c) f)=_:=s1
     simp only[cnF,b3,s1',qY,qI,Bool.not_true]
     rfl
end
theorem zlz{l:List Int}(h:l.length*4<=140737488355328):zgS l=some l:=by
 unfold zgS
 rw[zaZ h];rfl
section
variable {c:za} (g:zaz c) (w:zei c) {D:zG} (hD:zod c D) {f:Nat->Int} (hg:GoodW c f)
include g w hD hg
theorem zhu : ∀ k,k<=nC c->GoodW c (zbg c f k)/\(k<nC c->zlV (Ch c k) (sAt c k) (kD c k) (psC c k) (zbg c f k) (zbg c f (k+1))/\((Ch c k).kind=2->ze4 ⟨⟨(sAt c k:Int),(Ch c k).qx,mk (kD c k) fun j=>(psC c k j:Int)⟩,(Ch c k).qy⟩ (mk (nW c) (zbg c f k))=some (0,⟨mk (nW c) (zbg c f (k+1))⟩))/\((Ch c k).kind=1->ze5 ⟨⟨(sAt c k:Int),(Ch c k).qx,mk (kD c k) fun j=>(psC c k j:Int)⟩⟩ (mk (nW c) (zbg c f k))=some (0,⟨mk (nW c) (zbg c f (k+1))⟩))):=by
 have hF:=zwG g w hD
 have one : ∀ k,GoodW c (zbg c f k)->k<nC c->zlV (Ch c k) (sAt c k) (kD c k) (psC c k) (zbg c f k) (zbg c f (k+1))/\((Ch c k).kind=2->ze4 ⟨⟨(sAt c k:Int),(Ch c k).qx,mk (kD c k) fun j=>(psC c k j:Int)⟩,(Ch c k).qy⟩ (mk (nW c) (zbg c f k))=some (0,⟨mk (nW c) (zbg c f (k+1))⟩))/\((Ch c k).kind=1->ze5 ⟨⟨(sAt c k:Int),(Ch c k).qx,mk (kD c k) fun j=>(psC c k j:Int)⟩⟩ (mk (nW c) (zbg c f k))=some (0,⟨mk (nW c) (zbg c f (k+1))⟩)):=fun k hgk hk=>by
  have hx:=(g.chan k hk).1
  obtain ⟨n1,n2⟩:=zvz g w hk
  rcases hx.kind with h1 | h2
  . obtain ⟨t1,t2⟩:=zJ6 hgk.u hF hx n1 n2 (zdb g w hk) (hgk.st k hk) (hgk.pt k hk) h1
    exact⟨t2,fun h=>by omega,fun _=>t1⟩
  . obtain ⟨t1,t2⟩:=zJ5 hgk.u hF hx n1 n2 (zdb g w hk) (hgk.st k hk) (hgk.pt k hk) h2
    exact⟨t2,fun _=>t1,fun h=>by omega⟩
 intro k
 induction k with
 | zero=>exact fun _=>⟨hg,one 0 hg⟩
 | succ k ih=>
  intro hk
  obtain ⟨i1,i2⟩:=ih (by omega)
  have i3:=zxN g i1 (show k<nC c by omega) (i2 (by omega)).1
  exact⟨i3,one (k+1) i3⟩
theorem zuR{a:Nat}(h1 : ∀ k,¬ zC2 c k a)(h2 : ∀ k j,¬ zC0 c k j a) : ∀ k,k<=nC c->zbg c f k a=f a:=by
 intro k
 induction k with
 | zero=>exact fun _=>rfl
 | succ k ih=>
  intro hk
  obtain ⟨_,i2⟩:=zhu g w hD hg k (by omega)
  rw[(i2 (by omega)).1.out a (fun h=>h1 k ⟨by omega,h⟩) fun j hj h=>h2 k j ⟨by omega,hj,h⟩]
  exact ih (by omega)
theorem zJ7:zte (some D) (mk (nW c) f)=some (0,⟨mk (nW c) (zbg c f (nC c))⟩):=by
 have hF:=g.qr
 have hlen:c.qw.length=nC c:=rfl
 have hN:16<=nW c/\nW c<=16384:=by unfold nW;omega
 have hC:zgS (mk (nW c) f)=some (mk (nW c) f):=zlz (by rw[zP];omega)
 have hCl:zwj (some ⟨mk (nW c) f⟩)=some ⟨mk (nW c) f⟩:=by
  unfold zwj
  simp only[Tree.run0,Tree.run,qY,qP,qS,qA,cnT,cnF,hC]
 have l0:=zK (n:=nC c) (f:=fun i (xs:List Int)=>zm8 (some D) (mk (nW c) f) (.l0 (i:Int) xs)) (S:=fun i=>mk (nW c) (zbg c f i)) (fun k hk=>by
  obtain ⟨_,t0⟩:=zhu g w hD hg k (by omega)
  obtain ⟨_,t2,t1⟩:=t0 hk
  rw[zje]
  rcases (g.chan k hk).1.kind with h1 | h2
  . have s1':ze5 (zh3 c k) (mk (nW c) (zbg c f k))=some _:=t1 h1
    simp only[zkH,qP,hD.chans,hlen,zY hk,cnT,zgd g w hD hk,if_neg (show ¬ (Ch c k).kind=2 by omega),zgu,zjR g w hD hk h1,cnF,s1',qI,Bool.not_true,zj k (show k<4611686018427387904 by have:=g.chans;omega),Tree.run,qY]
  . have s1':ze4 (rowOf c k) (mk (nW c) (zbg c f k))=some _:=t2 h2
    simp only[zkH,qP,hD.chans,hlen,zY hk,cnT,zgd g w hD hk,if_pos h2,zhI,cnF,s1',qI,Bool.not_true,zj k (show k<4611686018427387904 by have:=g.chans;omega),Tree.run,qY])
 have l4:=zK (n:=nC c) (f:=fun i (xs:List Int)=>zm8 (some D) (mk (nW c) f) (.l4 (i:Int) xs)) (S:=fun i=>mk (nW c) (zbg c f i)) (fun k hk=>by
  obtain ⟨_,t0⟩:=zhu g w hD hg k (by omega)
  obtain ⟨_,t2,t1⟩:=t0 hk
  rw[zje]
  rcases (g.chan k hk).1.kind with h1 | h2
  . have s1':ze5 (zh3 c k) (mk (nW c) (zbg c f k))=some _:=t1 h1
    simp only[zkH,qP,hD.chans,hlen,zY hk,cnT,zgd g w hD hk,if_neg (show ¬ (Ch c k).kind=2 by omega),zgu,zjR g w hD hk h1,cnF,s1',zj k (show k<4611686018427387904 by have:=g.chans;omega),Tree.run,qY]
  . have s1':ze4 (rowOf c k) (mk (nW c) (zbg c f k))=some _:=t2 h2
    simp only[zkH,qP,hD.chans,hlen,zY hk,cnT,zgd g w hD hk,if_pos h2,zhI,cnF,s1',zj k (show k<4611686018427387904 by have:=g.chans;omega),Tree.run,qY])
 unfold zte zEP
 simp only[Tree.run,qY,zjE g w hD hg.u,cnT,qI,Bool.not_true,cnF,hCl,qA]
 refine(show zm8 (some D) (mk (nW c) f) (.l0 0 (mk (nW c) f))=_ from l0).trans ?_
 rw[zje]
 simp only[zkH,qP,hD.chans,hlen,z8 (qD),cnF,qA,cnT,Tree.run,qY]
 refine(show zm8 (some D) (mk (nW c) f) (.l4 0 (mk (nW c) f))=_ from l4).trans ?_
 rw[zje]
 simp only[zkH,qP,hD.chans,hlen,z8 (qD),cnF,Tree.run]
end
structure zcQ(x:zf):Prop where
 few:x.qe.length<=8
 page : ∀ i,i<x.qe.length->0<=(zi x.qe i).page/\(zi x.qe i).page<=255/\1<=(zi x.qe i).qc/\(zi x.qe i).page+(zi x.qe i).qc<=256
 frame : ∀ i,i<x.qe.length->0<=(zi x.qe i).frame/\(zi x.qe i).frame+(zi x.qe i).qc<=1024
theorem zcL{c:za}(g:zaz c){p:Nat}(hp:p<nP c):zcQ (P c p):=by
 have hf:=g.qr
 refine⟨(g.nregs p hp).2,fun i hi=>?_,fun i hi=>?_⟩
 . have h:=(g.qz p i hp hi).ok
   obtain ⟨a1,a2⟩:=h.page
   obtain ⟨a3,a4⟩:=h.qc
   unfold Rg at a1 a2 a3 a4
   omega
 . have h:=g.qz p i hp hi
   have h1:=h.frame
   have h2:=h.fits
   unfold Rg at h1 h2
   omega
theorem zh8{c:za}(g:zaz c){p:Nat}(hp:p<nP c)(i:Nat)(hi:i<(P c p).qe.length):0<=(zi (P c p).qe i).qv/\(zi (P c p).qe i).qv<=7/\(zi (P c p).qe i).frame+(zi (P c p).qe i).qc<=c.qr:=by
 have hf:=g.qr
 have h:=g.regb p i hp hi
 simp only[zhx,zgy,qH,qG]at h
 have h1:=h.1.1.2
 have h2:=(g.qz p i hp hi).fits
 unfold Rg at h1 h2
 omega
noncomputable def za7(x:zf)(pg i:Nat):Bool:=decide ((pg:Int)>=(zi x.qe i).page)&&decide ((pg:Int)<(zi x.qe i).page+(zi x.qe i).qc)
noncomputable def zdG(x:zf)(pg:Nat):Bool:=(List.range x.qe.length).any (za7 x pg)
noncomputable def zaW(x:zf)(a:Nat):Int:=match(List.range x.qe.length).find? (za7 x (a / 16))with
 | some i=>((zi x.qe i).frame+(a / 16:Nat)-(zi x.qe i).page)*16+(a % 16:Nat)
 | none => -1
noncomputable def zmO(x:zf)(pg:Nat):Int:=match(List.range x.qe.length).find? (za7 x pg)with
 | some i=>(zi x.qe i).qv
 | none=>0
theorem zJM{a:Int}{n:Nat}(h:a=(n:Int))(hn:n<4611686018427387904):bop .quo .i64 a 16=((n / 16:Nat):Int):=by subst h;exact zch n hn
theorem zqG{x:zf}(hx:zcQ x){a:Nat}(ha:a<4096):zpA x (a:Int)=some (zaW x a):=by
 have h8:=hx.few
 have hpg:a / 16<256:=by omega
 generalize hpe:a / 16=pg at hpg
 have hq:bop .quo .i64 (a:Int) 16=((pg:Nat):Int):=by rw[zch _ (by omega),hpe]
 have hr:bop .rem .i64 (a:Int) 16=((a % 16:Nat):Int):=zhi _
 have h:=zfk (l:=List.range x.qe.length) (f:=fun i=>zv9 x (a:Int) (.l0 (i:Int))) (q:=za7 x pg) (g:=fun i=>some (((zi x.qe i).frame+pg-(zi x.qe i).page)*16+(a % 16:Nat))) (e:=some (-1)) (fun i hi=>by
  rw[List.length_range]at hi
  rw[List.getElem_range]
  obtain ⟨a1,a2,a3,a4⟩:=hx.page i hi
  obtain ⟨b1,b2⟩:=hx.frame i hi
  have w1:i64.wrap ((zi x.qe i).page+(zi x.qe i).qc)=(zi x.qe i).page+(zi x.qe i).qc:=zam _ (by omega) (by omega)
  have w2:i64.wrap ((zi x.qe i).frame+(pg:Int))=(zi x.qe i).frame+pg:=zam _ (by omega) (by omega)
  have w3:i64.wrap ((zi x.qe i).frame+pg-(zi x.qe i).page)=(zi x.qe i).frame+pg-(zi x.qe i).page:=zam _ (by omega) (by omega)
  have w4:i64.wrap (((zi x.qe i).frame+pg-(zi x.qe i).page)*16)=((zi x.qe i).frame+pg-(zi x.qe i).page)*16:=zam _ (by omega) (by omega)
  have w5:i64.wrap (((zi x.qe i).frame+pg-(zi x.qe i).page)*16+((a % 16:Nat):Int))=((zi x.qe i).frame+pg-(zi x.qe i).page)*16+((a % 16:Nat):Int):=zam _ (by omega) (by omega)
  rw[zs9]
  simp only[zvi,tnC,zY hi,zo hi,cnT,hq,hr,w1,w2,w3,w4,w5,zj i (show i<4611686018427387904 by omega),zfb,id,Tree.run,qY]
  rfl) (by
  rw[List.length_range,zs9]
  simp only[zvi,z8 (qD),cnF,id,Tree.run,qY])
 refine Eq.trans h ?_
 unfold zaW
 rw[hpe]
 cases (List.range x.qe.length).find? (za7 x pg) <;> rfl
theorem zBQ{x:zf}(hx:zcQ x){pg:Nat}(hpg:pg<256):zwq x (pg:Int)=some (zmO x pg):=by
 have h8:=hx.few
 have h:=zfk (l:=List.range x.qe.length) (f:=fun i=>zwa x (pg:Int) (.l0 (i:Int))) (q:=za7 x pg) (g:=fun i=>some ((zi x.qe i).qv)) (e:=some 0) (fun i hi=>by
  rw[List.length_range]at hi
  rw[List.getElem_range]
  obtain ⟨a1,a2,a3,a4⟩:=hx.page i hi
  have w1:i64.wrap ((zi x.qe i).page+(zi x.qe i).qc)=(zi x.qe i).page+(zi x.qe i).qc:=zam _ (by omega) (by omega)
  rw[zta]
  simp only[zvj,tnC,zY hi,zo hi,cnT,w1,zj i (show i<4611686018427387904 by omega),zfb,id,Tree.run,qY]
  rfl) (by
  rw[List.length_range,zta]
  simp only[zvj,z8 (qD),cnF,id,Tree.run,qY])
 refine Eq.trans h ?_
 unfold zmO
 cases (List.range x.qe.length).find? (za7 x pg) <;> rfl
theorem zx4{x:zf}(hx:zcQ x){pg:Nat}(hpg:pg<256):decide (zaW x (16*pg)<0)=!(zdG x pg):=by
 unfold zaW zdG
 rw[show 16*pg / 16=pg by omega]
 cases h:(List.range x.qe.length).find? (za7 x pg)with
 | some i=>
  have hm:=List.mem_of_find?_eq_some h
  have hq:=List.find?_some h
  have hi:i<x.qe.length:=by simpa using hm
  obtain ⟨b1,b2⟩:=hx.frame i hi
  have hq':=hq
  unfold za7 at hq'
  simp only[qH,qG]at hq'
  rw[any_t.2 ⟨i,hi,hq⟩]
  exact decide_eq_false (by dsimp only;omega)
 | none=>
  rw[List.find?_eq_none]at h
  rw[any_f.2 fun i hi=>by have:=h i (by simpa using hi);simpa using this]
  rfl
theorem zfT{x:zf}(hx:zcQ x){t:Nat}(ht:t<16):zC x t=(List.range 16).any fun k=>zdG x (16*t+k):=by
 rw[Bool.eq_iff_iff]
 unfold zC zdG
 rw[any_t,any_t]
 constructor
 . rintro ⟨i,hi,hq⟩
   obtain ⟨a1,a2,a3,a4⟩:=hx.page i hi
   unfold zeG at hq
   simp only[qH,qG]at hq
   obtain ⟨h1,h2⟩:=hq
   by_cases hc:16*t<=(zi x.qe i).page.toNat
   . refine⟨(zi x.qe i).page.toNat-16*t,by omega,any_t.2 ⟨i,hi,?_⟩⟩
     unfold za7
     simp only[qH,qG]
     omega
   . refine⟨0,by omega,any_t.2 ⟨i,hi,?_⟩⟩
     unfold za7
     simp only[qH,qG]
     omega
 . rintro ⟨k,hk,h⟩
   obtain ⟨i,hi,hq⟩:=any_t.1 h
   obtain ⟨a1,a2,a3,a4⟩:=hx.page i hi
   unfold za7 at hq
   simp only[qH,qG]at hq
   refine⟨i,hi,?_⟩
   unfold zeG
   simp only[qH,qG]
   omega
theorem zhS{q:Nat->Bool}{t:Nat} : ∀ {n:Nat},t<n->q t=true->cnt q t<cnt q n
 | 0,h,_=>by omega
 | n+1,h,hq=>by
  rw[zbN]
  by_cases htn:t=n
  . subst htn;rw[hq];simp
  . have:=zhS (q:=q) (t:=t) (n:=n) (by omega) hq
    omega
structure zyN(x:zf)(pl:zk)(f N:Nat):Prop where
 qs:pl.qs=zhB f (zbv x)
 root:pl.root=(f:Int)
 room:16*(f+zbv x+1)<=N
 least:N<=16384
section
variable {c:za} (g:zaz c) (w:zei c)
include g w
theorem zlO : ∀ {i n:Nat},i<=n->tF c i<=tF c n:=by
 intro i n h
 induction n with
 | zero=>rw[Nat.le_zero.1 h];exact qD
 | succ n ih=>
  by_cases hi:i<=n
  . have:=ih hi;rw[tF];omega
  . obtain rfl:i=n+1:=by omega
    exact qD
theorem zqF{p:Nat}(hp:p<nP c):zyN (P c p) (full c p) (tF c p) (nW c):=by
 have h1:=zlO g w (show p+1<=nP c by omega)
 rw[tF]at h1
 have h2:=w.need
 have h3:=w.room
 have h4:=g.qr
 exact⟨rfl,rfl,by unfold nW;omega,by unfold nW;omega⟩
end
theorem zxK{q:Nat->Bool}{n:Nat}(h : ∀ i,i<n->q i=false):(List.range n).find? q=none:=by
 rw[List.find?_eq_none]
 intro i hi
 rw[h i (qF.1 hi)];simp
def ziO(q:Nat->Bool)(k:Nat):List Nat:=(List.range k).filter q
theorem zoG(q:Nat->Bool)(k:Nat):ziO q (k+1)=ziO q k++(if q k=true then [k]else []):=by
 unfold ziO
 rw[List.range_succ,List.filter_append]
 congr 1
 by_cases h:q k=true <;> simp[h]
theorem ziP(q:Nat->Bool) : ∀ k,(ziO q k).length=cnt q k
 | 0=>rfl
 | k+1=>by
  rw[zoG,List.length_append,ziP q k,zbN]
  cases h:q k <;> simp
def tn(q:Nat->Bool)(n:Nat):Nat:=(ziO q 16).getD n 0
theorem zr6(q:Nat->Bool) : ∀ k n,n<cnt q k->q ((ziO q k).getD n 0)=true/\(ziO q k).getD n 0<k/\cnt q ((ziO q k).getD n 0)=n
 | 0,n,h=>by simp[cnt,tot]at h
 | k + 1,n,h=>by
  rw[zoG]
  by_cases hn:n<cnt q k
  . obtain ⟨h1,h2,h3⟩:=zr6 q k n hn
    have e:(ziO q k++(if q k=true then [k]else [])).getD n 0=(ziO q k).getD n 0:=by
     simp[List.getD,List.getElem?_append_left (show n<(ziO q k).length by rw[ziP];exact hn)]
    rw[e]
    exact⟨h1,by omega,h3⟩
  . rw[zbN]at h
    cases hq:q k with
    | false=>rw[hq]at h;exact absurd h (by simpa using hn)
    | true=>
     rw[hq]at h
     have hnk:n=cnt q k:=by simp at h;omega
     have e:(ziO q k++(if true=true then [k]else [])).getD n 0=k:=by
      rw[if_pos rfl,List.getD,List.getElem?_append_right (by rw[ziP];omega),ziP,hnk]
      simp
     rw[e]
     exact⟨hq,by omega,hnk.symm⟩
theorem zEn{q:Nat->Bool}{n:Nat}(h:n<cnt q 16):q (tn q n)=true/\tn q n<16/\cnt q (tn q n)=n:=zr6 q 16 n h
theorem zDp{q:Nat->Bool}{s t:Nat}(hs:q s=true)(ht:q t=true)(h:cnt q s=cnt q t):s=t:=by
 rcases Nat.lt_trichotomy s t with h1 | h1 | h1
 . have:=zhS h1 hs;omega
 . exact h1
 . have:=zhS h1 ht;omega
theorem zCv{q:Nat->Bool}{t:Nat}(ht:t<16)(h:q t=true):tn q (cnt q t)=t:=by
 obtain ⟨h1,h2,h3⟩:=zEn (zhS ht h)
 exact zDp h1 h h3
noncomputable def ziG(a b:Int):Int:=bop .or .u32 (bop .or .u32 2147483648 (bop .shl .u32 (u32.wrap a) 3)) (u32.wrap b)
theorem zAt(a b:Int):zyg a b=ziG a b:=rfl
noncomputable def pgV(x:zf)(pg:Nat):Int:=match(List.range x.qe.length).find? (za7 x pg)with
 | some i=>ziG ((zi x.qe i).frame+pg-(zi x.qe i).page) (zi x.qe i).qv
 | none=>0
theorem zJI{x:zf}{pg:Nat}(h:zdG x pg=false):pgV x pg=0:=by
 unfold pgV
 rw[zxK (any_f.1 h)]
noncomputable def WT(x:zf)(f a:Nat):Int:=
 if a / 16=f then(if zC x (a % 16)=true then ziG ((f+1+cnt (zC x) (a % 16):Nat):Int) 0 else 0)
 else if f+1<=a / 16/\a / 16<f+1+zbv x then pgV x (16*tn (zC x) (a / 16-(f+1))+a % 16)else 0
noncomputable def RO(x:zf)(f:Nat)(h:Nat->Int)(t a:Nat):Int:=
 if a / 16=f then(if zC x (a % 16)=true/\a % 16<t then ziG ((f+1+cnt (zC x) (a % 16):Nat):Int) 0 else h a)
 else if f+1<=a / 16/\a / 16<f+1+cnt (zC x) t then pgV x (16*tn (zC x) (a / 16-(f+1))+a % 16)else h a
noncomputable def RI(x:zf)(f:Nat)(h:Nat->Int)(t i a:Nat):Int:=
 if a / 16=f+1+cnt (zC x) t/\a % 16<i/\zdG x (16*t+a % 16)=true then pgV x (16*t+a % 16)else RO x f h t a
noncomputable def TW(x:zf)(f:Nat)(h:Nat->Int)(a:Nat):Int:=if f<=a / 16/\a / 16<=f+zbv x then WT x f a else h a
theorem zJH{x:zf}(hx:zcQ x){pg:Nat}(hpg:pg<256)(hb:zdG x pg=true):zyg (bop .quo .i64 (zaW x (16*pg)) 16) (zmO x pg)=pgV x pg:=by
 unfold zaW zmO pgV
 rw[show 16*pg / 16=pg by omega,show 16*pg % 16=0 by omega]
 cases h:(List.range x.qe.length).find? (za7 x pg)with
 | none=>
  obtain ⟨r,hr,hq⟩:=any_t.1 hb
  have:=List.find?_eq_none.1 h r (qF.2 hr)
  rw[hq]at this;exact absurd rfl this
 | some k=>
  have hkl:=qF.1 (List.mem_of_find?_eq_some h)
  have hkq:=List.find?_some h
  obtain ⟨a1,a2,a3,a4⟩:=hx.page k hkl
  obtain ⟨b1,b2⟩:=hx.frame k hkl
  simp only[za7,qH,qG]at hkq
  show ziG (bop .quo .i64 (((zi x.qe k).frame+(pg:Int)-(zi x.qe k).page)*16+((0:Nat):Int)) 16) (zi x.qe k).qv=ziG ((zi x.qe k).frame+(pg:Int)-(zi x.qe k).page) (zi x.qe k).qv
  obtain ⟨z,hz⟩ : ∃ z:Nat,(zi x.qe k).frame+(pg:Int)-(zi x.qe k).page=(z:Int):=⟨((zi x.qe k).frame+(pg:Int)-(zi x.qe k).page).toNat,by omega⟩
  rw[hz,zJM (n:=z*16) (by omega) (by omega),Nat.mul_div_cancel _ (by decide)]
section
variable {x:zf} {pl:zk} {f N:Nat} (hx:zcQ x) (hp:zyN x pl f N) (h:Nat->Int) (m0:List Int)
include hx hp
theorem zJ2 {t:Nat} (ht:t<16) : ∀ r i,i+r=16->zjj x pl m0 (.l4 (cnt (zC x) t:Int) (t:Int) ((List.range i).any fun k=>zdG x (16*t+k)) (i:Int) (mk N (RI x f h t i)))=zjj x pl m0 (.l4 (cnt (zC x) t:Int) (t:Int) (zC x t) ((16:Nat):Int) (mk N (RI x f h t 16))):=by
 have htl:pl.qs.length=zbv x:=by rw[hp.qs];simp[zhB]
 have hc:=zbS (zC x) t
 have hr16:=hp.room
 have hN:=hp.least
 intro r
 induction r with
 | zero=>
  intro i hi
  rw[Nat.add_zero]at hi
  subst hi
  rw[zfT hx ht]
 | succ r ih=>
  intro i hi
  have hpg:16*t+i<256:=by omega
  have w1:i64.wrap ((t:Int)*16)=((16*t:Nat):Int):=zz _ _ (by omega) (by omega)
  have w2:i64.wrap (((16*t:Nat):Int)+(i:Int))=((16*t+i:Nat):Int):=zz _ _ (by omega) (by omega)
  have w3:i64.wrap (((16*t+i:Nat):Int)*16)=((16*(16*t+i):Nat):Int):=zz _ _ (by omega) (by omega)
  have p1':zpA x ((16*(16*t+i):Nat):Int)=some (zaW x (16*(16*t+i))):=zqG hx (by omega)
  have r1':zwq x ((16*t+i:Nat):Int)=some (zmO x (16*t+i)):=zBQ hx hpg
  have hn:=zx4 hx hpg
  have hlt:decide ((i:Int)<16)=true:=decide_eq_true (by omega)
  cases hb:zdG x (16*t+i)with
  | false=>
   rw[hb]at hn
   rw[zfq]
   simp only[zkK,hlt,cnT,w1,w2,w3,p1',hn,Bool.not_false,zj i (show i<4611686018427387904 by omega),Tree.run,qY]
   have e:((List.range i).any fun k=>zdG x (16*t+k))=((List.range (i+1)).any fun k=>zdG x (16*t+k)):=by rw[ziA,hb,Bool.or_false]
   have e2:mk N (RI x f h t i)=mk N (RI x f h t (i+1)):=zbO fun a _=>by
    unfold RI
    by_cases c:a / 16=f+1+cnt (zC x) t/\a % 16<i/\zdG x (16*t+a % 16)=true
    . rw[if_pos c,if_pos ⟨c.1,by omega,c.2.2⟩]
    . rw[if_neg c,if_neg]
      rintro ⟨c1,c2,c3⟩
      by_cases e:a % 16=i
      . rw[e,hb]at c3;cases c3
      . exact c ⟨c1,by omega,c3⟩
   rw[e,e2]
   exact ih (i+1) (by omega)
  | true=>
   rw[hb]at hn
   have htt:zC x t=true:=by rw[zfT hx ht,any_t];exact⟨i,by omega,hb⟩
   have hlt2:cnt (zC x) t<zbv x:=zhS ht htt
   have ha:zt pl.qs (cnt (zC x) t)=((f+1+cnt (zC x) t:Nat):Int):=by rw[hp.qs];exact zwx hlt2
   have w4:i64.wrap (((f+1+cnt (zC x) t:Nat):Int)*16)=((16*(f+1+cnt (zC x) t):Nat):Int):=zz _ _ (by omega) (by omega)
   have w5:i64.wrap (((16*(f+1+cnt (zC x) t):Nat):Int)+(i:Int))=((16*(f+1+cnt (zC x) t)+i:Nat):Int):=zz _ _ (by omega) (by omega)
   have hin:16*(f+1+cnt (zC x) t)+i<N:=by omega
   rw[zfq]
   simp only[zkK,hlt,cnT,cnF,w1,w2,w3,p1',hn,Bool.not_true,tnC,zo (show cnt (zC x) t<pl.qs.length by omega),r1',ha,w4,w5,zP,zo hin,zdM hin,zJH hx hpg hb,zj i (show i<4611686018427387904 by omega),Tree.run,qY]
   have e:((List.range (i+1)).any fun k=>zdG x (16*t+k))=true:=by rw[ziA,hb,Bool.or_true]
   have e2:(mk N fun a=>if a=16*(f+1+cnt (zC x) t)+i then pgV x (16*t+i)else RI x f h t i a)=mk N (RI x f h t (i+1)):=zbO fun a _=>by
    unfold RI
    by_cases c:a=16*(f+1+cnt (zC x) t)+i
    . have c1:a / 16=f+1+cnt (zC x) t:=by omega
      have c2:a % 16=i:=by omega
      rw[if_pos c,if_pos ⟨c1,by omega,by rw[c2];exact hb⟩,c2]
    . rw[if_neg c]
      by_cases c2:a / 16=f+1+cnt (zC x) t/\a % 16<i/\zdG x (16*t+a % 16)=true
      . rw[if_pos c2,if_pos ⟨c2.1,by omega,c2.2.2⟩]
      . rw[if_neg c2,if_neg]
        rintro ⟨d1,d2,d3⟩
        exact c2 ⟨d1,by omega,d3⟩
   have:=ih (i+1) (by omega)
   rw[e]at this
   rw[e2]
   exact this
theorem zEl (hz : ∀ a,f<=a / 16->a / 16<=f+zbv x->h a=0):zpw x pl (mk N h)=some (mk N (TW x f h)):=by
 have hr16:=hp.room
 have hN:=hp.least
 have htl:pl.qs.length=zbv x:=by rw[hp.qs];simp[zhB]
 generalize hm0:mk N h=m00
 have key : ∀ r t,t+r=16->zjj x pl m00 (.l0 (cnt (zC x) t:Int) (t:Int) (mk N (RO x f h t)))=some (mk N (RO x f h 16)):=by
  intro r
  induction r with
  | zero=>
   intro t ht
   rw[Nat.add_zero]at ht
   subst ht
   rw[zfq]
   simp only[zkK,show decide (((16:Nat):Int)<16)=false from rfl,cnF,id,Tree.run,qY]
  | succ r ih=>
   intro t ht
   have ht16:t<16:=by omega
   have hc:=zbS (zC x) t
   have e9 : ∀ (n:Nat) (m:List Int),zjj x pl m00 (.l9 (n:Int) (t:Int) m)=zjj x pl m00 (.l0 (n:Int) ((t+1:Nat):Int) m):=fun n m=>by
    rw[zfq]
    simp only[zkK,zj t (show t<4611686018427387904 by omega),Tree.run,qY]
   have e0:mk N (RO x f h t)=mk N (RI x f h t 0):=zbO fun a _=>by unfold RI;rw[if_neg (by omega)]
   rw[zfq]
   simp only[zkK,show decide ((t:Int)<16)=true from decide_eq_true (by omega),cnT,Tree.run,qY]
   have e1':zjj x pl m00 (.l4 (cnt (zC x) t:Int) (t:Int) false 0 (mk N (RI x f h t 0)))=_:=zJ2 hx hp h m00 ht16 16 0 (by omega)
   rw[e0,e1',zfq]
   simp only[zkK,show decide (((16:Nat):Int)<16)=false from rfl,cnF,Tree.run,qY]
   cases htt:zC x t with
   | false=>
    have ec:cnt (zC x) (t+1)=cnt (zC x) t:=by rw[zbN,htt];rfl
    have hnop : ∀ i,i<16->zdG x (16*t+i)=false:=fun i hi=>by
     rw[zfT hx ht16]at htt
     exact any_f.1 htt i hi
    have e2:mk N (RI x f h t 16)=mk N (RO x f h (t+1)):=zbO fun a _=>by
     unfold RI
     rw[if_neg (by rintro ⟨_,c2,c3⟩;rw[hnop _ c2]at c3;cases c3)]
     unfold RO
     rw[ec]
     by_cases c:a / 16=f
     . rw[if_pos c,if_pos c]
       by_cases d:zC x (a % 16)=true/\a % 16<t
       . rw[if_pos d,if_pos ⟨d.1,by omega⟩]
       . rw[if_neg d,if_neg]
         rintro ⟨d1,d2⟩
         by_cases e:a % 16=t
         . rw[e,htt]at d1;cases d1
         . exact d ⟨d1,by omega⟩
     . rw[if_neg c,if_neg c]
    rw[cnF,e9,e2,← ec]
    exact ih (t+1) (by omega)
   | true =>
    have ec:cnt (zC x) (t+1)=cnt (zC x) t+1:=by rw[zbN,htt];rfl
    have hlt2:cnt (zC x) t<zbv x:=zhS ht16 htt
    have ha:zt pl.qs (cnt (zC x) t)=((f+1+cnt (zC x) t:Nat):Int):=by rw[hp.qs];exact zwx hlt2
    have w1:i64.wrap (pl.root*16)=((16*f:Nat):Int):=zz _ _ (by rw[hp.root];omega) (by omega)
    have w2:i64.wrap (((16*f:Nat):Int)+(t:Int))=((16*f+t:Nat):Int):=zz _ _ (by omega) (by omega)
    have hin:16*f+t<N:=by omega
    rw[cnT,tnC,zo (show cnt (zC x) t<pl.qs.length by omega),cnT,w1,w2,zP,zo hin,cnT,tnC,zj _ (show cnt (zC x) t<4611686018427387904 by omega),e9,ha,zdM hin,← ec]
    have e2:(mk N fun a=>if a=16*f+t then zyg ((f+1+cnt (zC x) t:Nat):Int) 0 else RI x f h t 16 a)=mk N (RO x f h (t+1)):=zbO fun a _=>by
     rw[zAt]
     by_cases c:a=16*f+t
     . have c1:a / 16=f:=by omega
       have c2:a % 16=t:=by omega
       unfold RO
       rw[if_pos c,if_pos c1,c2,if_pos ⟨htt,by omega⟩]
     . rw [if_neg c]
       unfold RI
       by_cases d:a / 16=f+1+cnt (zC x) t
       . have e1:RO x f h (t+1) a=pgV x (16*t+a % 16):=by
          unfold RO
          rw[if_neg (by omega),if_pos (by omega),show a / 16-(f+1)=cnt (zC x) t by omega,zCv ht16 htt]
         rw[e1]
         cases hb:zdG x (16*t+a % 16)with
         | true=>rw[if_pos ⟨d,by omega,rfl⟩]
         | false=>
          rw[if_neg (by rintro ⟨_,_,e⟩;cases e),zJI hb]
          unfold RO
          rw[if_neg (by omega),if_neg (by omega)]
          exact hz a (by omega) (by omega)
       . rw [if_neg (fun e=>d e.1)]
         unfold RO
         by_cases c1:a / 16=f
         . rw[if_pos c1,if_pos c1]
           by_cases q:zC x (a % 16)=true/\a % 16<t
           . rw[if_pos q,if_pos ⟨q.1,by omega⟩]
           . rw[if_neg q,if_neg]
             rintro ⟨d1,d2⟩
             exact q ⟨d1,by omega⟩
         . rw[if_neg c1,if_neg c1]
           by_cases q:f+1<=a / 16/\a / 16<f+1+cnt (zC x) t
           . rw[if_pos q,if_pos (show f+1<=a / 16/\a / 16<f+1+cnt (zC x) (t+1)by omega)]
           . rw[if_neg q,if_neg (show ¬ (f+1<=a / 16/\a / 16<f+1+cnt (zC x) (t+1))by omega)]
    rw[e2]
    exact ih (t+1) (by omega)
 have e0:mk N h=mk N (RO x f h 0):=zbO fun a _=>by
  unfold RO
  by_cases c:a / 16=f
  . rw[if_pos c,if_neg (by omega)]
  . rw[if_neg c,if_neg (show ¬ (f+1<=a / 16/\a / 16<f+1+cnt (zC x) 0)by have:cnt (zC x) 0=0:=rfl;omega)]
 have e16:mk N (RO x f h 16)=mk N (TW x f h):=zbO fun a _=>by
  have hnt:zbv x=cnt (zC x) 16:=rfl
  unfold RO TW WT
  by_cases c:a / 16=f
  . rw[if_pos c,if_pos (show f<=a / 16/\a / 16<=f+zbv x by omega),if_pos c]
    by_cases d:zC x (a % 16)=true
    . rw[if_pos ⟨d,by omega⟩,if_pos d]
    . rw[if_neg (fun e=>d e.1),if_neg d]
      exact hz a (by omega) (by omega)
  . rw[if_neg c]
    by_cases d:f+1<=a / 16/\a / 16<f+1+zbv x
    . rw[if_pos (show f+1<=a / 16/\a / 16<f+1+cnt (zC x) 16 from d),if_pos (show f<=a / 16/\a / 16<=f+zbv x by omega),if_neg c,if_pos d]
    . rw[if_neg (show ¬ (f+1<=a / 16/\a / 16<f+1+cnt (zC x) 16)from d),if_neg (show ¬ (f<=a / 16/\a / 16<=f+zbv x)by omega)]
 unfold zpw zE1
 have hk:=key 16 0 (by omega)
 rw[← e0,hm0,e16]at hk
 exact hk
end
theorem zlQ(n:Int):0<=u32.wrap n/\u32.wrap n<4294967296:=by
 simp[IntKind.wrap,IntKind.bits,IntKind.signed];omega
theorem or32(x y:Int):bop .or .u32 x y=u32.wrap (((BitVec.ofInt 32 x ||| BitVec.ofInt 32 y).toNat:Nat):Int):=by kernel_rfl
theorem zrT(a b:Int):0<=ziG a b/\ziG a b<4294967296:=by
 unfold ziG
 rw[or32 (bop .or .u32 2147483648 (bop .shl .u32 (u32.wrap a) 3))]
 exact zlQ _
theorem zD2(x:zf)(pg:Nat):0<=pgV x pg/\pgV x pg<4294967296:=by
 unfold pgV
 split
 . exact zrT _ _
 . exact⟨Int.le_refl _,by omega⟩
theorem zGU(x:zf)(f a:Nat):0<=WT x f a/\WT x f a<4294967296:=by
 unfold WT
 split
 . split
   . exact zrT _ _
   . exact⟨Int.le_refl _,by omega⟩
 . split
   . exact zD2 _ _
   . exact⟨Int.le_refl _,by omega⟩
noncomputable def stA(c:za)(p:Nat):Nat:=pAt c p+19
noncomputable def zmu(x:zf)(prog:List Int)(h:Nat->Int):Nat->Nat->Int
 | 0=>h
 | n+1=>fun a=>if(a:Int)=zaW x n then zt prog n else zmu x prog h n a
noncomputable def zrJ(c:za)(l:List (List Int))(h:Nat->Int)(p:Nat):Nat->Int:=
 if p<l.length then zmu (P c p) (zW l p) (fun a=>if a=pAt c p+18 then u32.wrap (P c p).entry else TW (P c p) (tF c p) h a) (zW l p).length
 else fun a=>if a=pAt c p+18 then u32.wrap (P c p).entry else TW (P c p) (tF c p) h a
noncomputable def zcS(c:za)(l:List (List Int)):Nat->Nat->Int
 | 0=>fun _=>0
 | p+1=>zrJ c l (zcS c l p) p
def InT(c:za)(p a:Nat):Prop:=tF c p<=a / 16/\a / 16<=tF c p+zbv (P c p)
theorem zeS(c:za) : ∀ n,cAt c 0<=cAt c n
 | 0=>qD
 | n+1=>by
  have:=zeS c n
  show cAt c 0<=cAt c n+2+stg (Ch c n)+(dl c n).length*prt (Ch c n)
  omega
theorem zAV(c:za){a:Nat}(h:a<cAt c (nC c)){p:Nat} : ¬ InT c p a:=by
 rintro ⟨h1,h2⟩
 have h3:tF c 0=(cAt c (nC c)+15) / 16:=rfl
 have h4:tF c 0<=tF c p:=zll c p
 omega
theorem zqD{c:za}{p:Nat}(hp:p<nP c):pAt c p+24<=cAt c (nC c)/\16*kF0 c+2<=pAt c p:=by
 have h1:=zeS c (nC c)
 have h2:cAt c 0=16*kF0 c+2+24*nP c:=rfl
 have h4:pAt c p=16*kF0 c+2+24*p:=rfl
 omega
section
variable {c:za} (g:zaz c) (w:zei c)
include g w
theorem zuX{p q a:Nat}(hp:p<nP c)(hq:q<nP c)(h1:InT c p a)(h2:InT c q a):p=q:=by
 obtain ⟨a1,a2⟩:=h1
 obtain ⟨b1,b2⟩:=h2
 have e1:tF c (p+1)=tF c p+(1+zbv (P c p)):=rfl
 have e2:tF c (q+1)=tF c q+(1+zbv (P c q)):=rfl
 rcases Nat.lt_trichotomy p q with h | h | h
 . have:=zlO g w (show p+1<=q by omega);omega
 . exact h
 . have:=zlO g w (show q+1<=p by omega);omega
theorem zqK{p i a:Nat}(hp:p<nP c)(hi:i<(P c p).qe.length)(h1:(zi (P c p).qe i).frame<=((a / 16:Nat):Int))(h2:((a / 16:Nat):Int)<(zi (P c p).qe i).frame+(zi (P c p).qe i).qc) : ¬ (16*kF0 c<=a/\a<16*tF c (nP c)):=by
 rintro ⟨h3,h4⟩
 have hk:=w.kernel
 have hr:=w.room
 have hn:=w.need
 have hf:=g.qr
 have ha:=w.apart p i hp hi
 have hx:=(g.qz p i hp hi)
 have hx1:=hx.fits
 have hx2:=hx.frame
 have hx3:=hx.ok.qc
 unfold Rg at ha hx1 hx2 hx3
 have e:kF0 c=c.kernel.toNat:=rfl
 have:=zA5 (a:=(zi (P c p).qe i).frame) (m:=(zi (P c p).qe i).qc) (b:=c.kernel) (o:=c.room) (x:=((a / 16:Nat):Int)) (by omega) (by omega) ⟨h1,h2⟩ (by omega)
 rw[ha]at this
 cases this
theorem zka{p a:Nat}{z:Int}(hp:p<nP c)(h:zaW (P c p) a=z)(hz:0<=z) : ∃ i,i<(P c p).qe.length/\(List.range (P c p).qe.length).find? (za7 (P c p) (a / 16))=some i/\(zi (P c p).qe i).frame<=((z.toNat / 16:Nat):Int)/\((z.toNat / 16:Nat):Int)<(zi (P c p).qe i).frame+(zi (P c p).qe i).qc/\z<(nW c:Int):=by
 have hf:=g.qr
 unfold zaW at h
 cases hq:(List.range (P c p).qe.length).find? (za7 (P c p) (a / 16))with
 | none=>rw[hq]at h;dsimp only at h;omega
 | some i=>
  rw[hq]at h
  dsimp only at h
  have hi:=qF.1 (List.mem_of_find?_eq_some hq)
  have hqi:=List.find?_some hq
  simp only[za7,qH,qG]at hqi
  obtain ⟨_,_,r3⟩:=zh8 g hp i hi
  obtain ⟨b1,_⟩:=(zcL g hp).frame i hi
  refine⟨i,hi,rfl,?_,?_,?_⟩
  . omega
  . omega
  . unfold nW;omega
theorem zx3{p a b:Nat}(hp:p<nP c)(h:zaW (P c p) a=(b:Int)) : ¬ (16*kF0 c<=b/\b<16*tF c (nP c)):=by
 obtain ⟨i,hi,_,h1,h2,_⟩:=zka g w hp h (by omega)
 exact zqK g w hp hi (by simpa using h1) (by simpa using h2)
theorem zmv{p:Nat}(hp:p<nP c)(l:List Int)(h:Nat->Int){a:Nat}(ha:16*kF0 c<=a/\a<16*tF c (nP c)) : ∀ n,zmu (P c p) l h n a=h a
 | 0=>rfl
 | n+1=>by
  unfold zmu
  rw[if_neg fun e=>zx3 g w hp e.symm ha]
  exact zmv hp l h ha n
omit g w in
theorem zAQ{x:zf}{l:List Int}(hl : ∀ j,0<=zt l j/\zt l j<4294967296){h:Nat->Int}(hu:U32 h) : ∀ n,U32 (zmu x l h n)
 | 0=>hu
 | n+1=>fun a=>by
  unfold zmu
  split
  . exact hl _
  . exact zAQ hl hu n a
structure BootI(c:za)(p:Nat)(h:Nat->Int):Prop where
 rng:U32 h
 done : ∀ q,q<p->∀ a,InT c q a->h a=WT (P c q) (tF c q) a
 zero : ∀ a,16*kF0 c<=a->a<16*tF c (nP c)->(∀ q,q<p->¬ InT c q a)->(∀ q,q<p->a ≠ pAt c q+18)->h a=0
omit g w in
theorem zpQ{p a:Nat}(h:InT c p a):pAt c (nP c)<=a:=by
 obtain ⟨h1,h2⟩:=h
 have h3:tF c 0=(cAt c (nC c)+15) / 16:=rfl
 have h4:tF c 0<=tF c p:=zll c p
 have h5:=zeS c (nC c)
 have h6:cAt c 0=pAt c (nP c):=rfl
 omega
theorem zpP{p a:Nat}(hp:p<nP c)(h:InT c p a):16*kF0 c<=a/\a<16*tF c (nP c):=by
 have h1:=zpQ h
 have h2:pAt c (nP c)=16*kF0 c+2+24*nP c:=rfl
 obtain ⟨h3,h4⟩:=h
 have e1:tF c (p+1)=tF c p+(1+zbv (P c p)):=rfl
 have:=zlO g w (show p+1<=nP c by omega)
 omega
theorem BootI.step{p:Nat}{h:Nat->Int}(hb:BootI c p h)(hp:p<nP c){l:List (List Int)}(hl : ∀ i j,0<=zt (zW l i) j/\zt (zW l i) j<4294967296):BootI c (p+1) (zrJ c l h p):=by
 have hpt:=zqD hp
 have h0:BootI c (p+1) (fun a=>if a=pAt c p+18 then u32.wrap (P c p).entry else TW (P c p) (tF c p) h a):=by
  refine⟨fun a=>?_,fun q hq a ha=>?_,fun a h1 h2 h3 h4=>?_⟩
  . show 0<=(if a=pAt c p+18 then _ else _)/\(if a=pAt c p+18 then _ else _)<_
    split
    . exact zlQ _
    . unfold TW
      split
      . exact zGU _ _ _
      . exact hb.rng a
  . show(if a=pAt c p+18 then _ else _)=_
    have:=zpQ ha
    have h2:pAt c (nP c)=16*kF0 c+2+24*nP c:=rfl
    have h4:pAt c p=16*kF0 c+2+24*p:=rfl
    rw[if_neg (by omega)]
    unfold TW
    by_cases e:q=p
    . subst e;rw[if_pos (show tF c q<=a / 16/\a / 16<=tF c q+zbv (P c q)from ha)]
    . rw[if_neg (show ¬ (tF c p<=a / 16/\a / 16<=tF c p+zbv (P c p))from fun hn=>e (zuX g w (by omega) hp ha hn))]
      exact hb.done q (by omega) a ha
  . show(if a=pAt c p+18 then _ else _)=_
    rw[if_neg (h4 p (by omega))]
    unfold TW
    rw[if_neg (show ¬ (tF c p<=a / 16/\a / 16<=tF c p+zbv (P c p))from h3 p (by omega))]
    exact hb.zero a h1 h2 (fun q hq=>h3 q (by omega)) fun q hq=>h4 q (by omega)
 unfold zrJ
 split
 . refine⟨zAQ (hl p) h0.rng _,fun q hq a ha=>?_,fun a h1 h2 h3 h4=>?_⟩
   . rw[zmv g w hp _ _ (zpP g w (by omega) ha)]
     exact h0.done q hq a ha
   . rw[zmv g w hp _ _ ⟨h1,h2⟩]
     exact h0.zero a h1 h2 h3 h4
 . exact h0
theorem zl5{l:List (List Int)}(hl : ∀ i j,0<=zt (zW l i) j/\zt (zW l i) j<4294967296) : ∀ p,p<=nP c->BootI c p (zcS c l p)
 | 0,_=>⟨fun _=>⟨Int.le_refl _,by show(0:Int)<_;omega⟩,fun q hq=>absurd hq (Nat.not_lt_zero _),fun _ _ _ _ _=>rfl⟩
 | p+1,hp=>(zl5 hl p (by omega)).step g w (by omega) hl
end
structure InvC(c:za)(f:Nat->Int):Prop where
 w:GoodW c f
 tab : ∀ p,p<nP c->∀ a,InT c p a->f a=WT (P c p) (tF c p) a
 st : ∀ p,p<nP c->(f (stA c p)=0 ∨ f (stA c p)=1 ∨ f (stA c p)=3)/\f (stA c p+1)=0/\f (stA c p+2)=0/\f (stA c p+3)=0/\f (stA c p+4)<=(P c p).qW
structure zry(c:za)(p:Nat)(f:Nat->Int):Prop where
 w:zyJ c (p:Int) f
 tab : ∀ a,InT c p a->f a=WT (P c p) (tF c p) a
 st:(f (stA c p)=0 ∨ f (stA c p)=1 ∨ f (stA c p)=3)/\f (stA c p+1)=0/\f (stA c p+2)=0/\f (stA c p+3)=0/\f (stA c p+4)<=(P c p).qW
theorem InvC.part{c:za}(g:zaz c)(w:zei c){D:zG}(hD:zod c D){f:Nat->Int}(hI:InvC c f){p:Nat}(hp:p<nP c):zry c p f:=⟨hI.w.part g w hD _,hI.tab p hp,hI.st p hp⟩
theorem zrK{c:za}(g:zaz c)(w:zei c)(ho : ∀ p,p<nP c->0<=(P c p).qW){l:List (List Int)}(hl : ∀ i j,0<=zt (zW l i) j/\zt (zW l i) j<4294967296):InvC c (zcS c l (nP c)):=by
 have hb:=zl5 g w hl (nP c) (qD)
 have key : ∀ a,pAt c (nP c)<=a->a<cAt c (nC c)->zcS c l (nP c) a=0:=fun a h1 h2=>by
  have h3:tF c 0=(cAt c (nC c)+15) / 16:=rfl
  have h4:tF c 0<=tF c (nP c):=zll c _
  have h5:pAt c (nP c)=16*kF0 c+2+24*nP c:=rfl
  refine hb.zero a (by omega) (by omega) (fun q hq=>zAV c h2) fun q hq e=>?_
  have h4:pAt c q=16*kF0 c+2+24*q:=rfl
  omega
 have kst : ∀ p i,p<nP c->i<5->zcS c l (nP c) (stA c p+i)=0:=fun p i hp hi=>by
  have h1:=zqD hp
  have h3:tF c 0=(cAt c (nC c)+15) / 16:=rfl
  have h4:tF c 0<=tF c (nP c):=zll c _
  unfold stA
  refine hb.zero _ (by omega) (by omega) (fun q hq=>zAV c (by omega)) fun q hq e=>?_
  have h4:pAt c q=16*kF0 c+2+24*q:=rfl
  have h5:pAt c p=16*kF0 c+2+24*p:=rfl
  omega
 have hc0 : ∀ k,pAt c (nP c)<=cAt c k:=fun k=>zeS c k
 refine⟨⟨hb.rng,fun k hk=>zCl (g.chan k hk).1 fun i hi=>?_,fun k hk j hj=>zBE (g.chan k hk).1 fun i hi=>?_⟩,fun p hp a ha=>hb.done p hp a ha,fun p hp=>⟨.inl (kst p 0 hp (by omega)),kst p 1 hp (by omega),kst p 2 hp (by omega),kst p 3 hp (by omega),?_⟩⟩
 . have h1:=zhM c k
   have h2:=zcT c (show k+1<=nC c by omega)
   have h3:=hc0 k
   have h4:=zcd c k
   exact key _ (by omega) (by omega)
 . have h1:=zi4 c hj
   have h2:=zcT c (show k+1<=nC c by omega)
   have h3:=hc0 k
   have h4:=zcd c k
   have h5:=zi5 c k j
   exact key _ (by omega) (by omega)
 . rw[kst p 4 hp (by omega)];exact ho p hp
noncomputable def zqh(k:Nat):Bool:=(List.range 128).all fun a=>(List.range 8).all fun b=>decide (zld (ziG (128*k+a:Nat) (b:Nat))=(((128*k+a:Nat):Int),(b:Int),true))
theorem zHb:zqh 0=true:=by kernel_rfl
theorem zHc:zqh 1=true:=by kernel_rfl
theorem zHd:zqh 2=true:=by kernel_rfl
theorem zHe:zqh 3=true:=by kernel_rfl
theorem zHf:zqh 4=true:=by kernel_rfl
theorem zHg:zqh 5=true:=by kernel_rfl
theorem zHh:zqh 6=true:=by kernel_rfl
theorem zHi:zqh 7=true:=by kernel_rfl
theorem zDq : ∀ k:Nat,k<8->zqh k=true
 | 0,_=>zHb
 | 1,_=>zHc
 | 2,_=>zHd
 | 3,_=>zHe
 | 4,_=>zHf
 | 5,_=>zHg
 | 6,_=>zHh
 | 7,_=>zHi
 | n+8,h=>absurd h (by omega)
theorem zDr{a b:Int}(ha:0<=a/\a<1024)(hb:0<=b/\b<=7):zld (ziG a b)=(a,b,true):=by
 obtain ⟨a',rfl⟩ : ∃ n:Nat,a=(n:Int):=⟨a.toNat,by omega⟩
 obtain ⟨b',rfl⟩ : ∃ n:Nat,b=(n:Int):=⟨b.toNat,by omega⟩
 have h1:=List.all_eq_true.1 (zDq (a' / 128) (by omega)) (a' % 128) (qF.2 (by omega))
 have h2:=of_decide_eq_true (List.all_eq_true.1 h1 b' (qF.2 (by omega)))
 rwa [show 128*(a' / 128)+a' % 128=a' by omega]at h2
theorem zMw:zld 0=(0,0,false):=by kernel_rfl
noncomputable def adr(c:za)(p:Nat)(r a:Int):Option Int:=
 if 0<=a/\a<4096 then match(List.range (P c p).qe.length).find? (za7 (P c p) (a.toNat / 16))with
  | some i=>if bop .andNot .i64 r (zi (P c p).qe i).qv=0 then some (zaW (P c p) a.toNat)else none
  | none=>none
 else none
noncomputable def zeQ(c:za)(p:Nat)(r a:Int):Nat->Option (List Int)
 | 0=>some []
 | n+1=>(zeQ c p r a n).bind fun l=>(adr c p r (a+(n:Int))).map fun z=>l++[z]
section
variable {c:za} (g:zaz c) (w:zei c)
include g w
theorem zlX{p:Nat}(hp:p<nP c){r a z:Int}(h:adr c p r a=some z) : ∃ (y i:Nat),z=(y:Int)/\y<nW c/\i<(P c p).qe.length/\(zi (P c p).qe i).frame<=((y / 16:Nat):Int)/\((y / 16:Nat):Int)<(zi (P c p).qe i).frame+(zi (P c p).qe i).qc/\bop .andNot .i64 r (zi (P c p).qe i).qv=0:=by
 unfold adr at h
 split at h
 . rename_i ha
   cases hq:(List.range (P c p).qe.length).find? (za7 (P c p) (a.toNat / 16))with
   | none=>rw[hq]at h;cases h
   | some i=>
    rw[hq]at h
    dsimp only at h
    split at h
    . rename_i hr
      cases h
      have hi:=qF.1 (List.mem_of_find?_eq_some hq)
      have hqi:=List.find?_some hq
      simp only[za7,qH,qG]at hqi
      obtain ⟨b1,_⟩:=(zcL g hp).frame i hi
      have h0:0<=zaW (P c p) a.toNat:=by
       unfold zaW
       rw[hq]
       dsimp only;omega
      obtain ⟨j,hj,hj1,h1,h2,h3⟩:=zka g w hp rfl h0
      rw[hq]at hj1
      cases hj1
      exact⟨(zaW (P c p) a.toNat).toNat,i,by omega,by omega,hi,h1,h2,hr⟩
    . cases h
 . cases h
theorem zfy{p:Nat}(hp:p<nP c){r a:Int} : ∀ {n:Nat} {l:List Int},zeQ c p r a n=some l->l.length=n/\∀ z ∈ l,∃ b,adr c p r b=some z
 | 0,l,h=>by
  unfold zeQ at h
  cases h
  exact⟨rfl,fun _ hz=>absurd hz (List.not_mem_nil)⟩
 | n+1,l,h=>by
  unfold zeQ at h
  cases h1:zeQ c p r a n with
  | none=>rw[h1]at h;cases h
  | some l'=>
   rw[h1]at h
   cases h2:adr c p r (a+(n:Int))with
   | none=>rw[h2]at h;cases h
   | some z=>
    rw[h2]at h
    obtain ⟨i1,i2⟩:=zfy hp h1
    cases h
    refine⟨by simp[i1],fun y hy=>?_⟩
    rcases List.mem_append.1 hy with hy | hy
    . exact i2 y hy
    . rw[List.mem_singleton.1 hy];exact⟨_,h2⟩
variable {f:Nat->Int} {p:Nat} (hI:zry c p f)
include hI
theorem zAI{t:Int}(h0:0<=t)(h1:t<c.qr):zkp (some ⟨mk (nW c) f⟩) t=some true:=by
 have hF:=g.qr
 have k1':zdJ (some ⟨mk (nW c) f⟩)=some ((c.qr.toNat:Nat):Int):=zfh hI.w.u c.qr.toNat (by omega)
 unfold zkp
 simp only[Tree.run0,Tree.run,k1',qY,decide_eq_true (show t>=0 by omega),cnT]
 rw[decide_eq_true (by omega)]
theorem zuq{t i:Nat}(hi:i<16)(ht:16*t+i<nW c):(f (16*t+i)=0->zkq (some ⟨mk (nW c) f⟩) (t:Int) (i:Int)=some (0,0,92))/\∀ a b:Int,f (16*t+i)=ziG a b->0<=a->a<c.qr->0<=b->b<=7->zkq (some ⟨mk (nW c) f⟩) (t:Int) (i:Int)=some (a,b,0):=by
 have hF:=g.qr
 have hN:=(zgZ g w).2
 have w1:i64.wrap ((t:Int)*16)=((16*t:Nat):Int):=zz _ _ (by omega) (by omega)
 have w2:i64.wrap (((16*t:Nat):Int)+(i:Int))=((16*t+i:Nat):Int):=zz _ _ (by omega) (by omega)
 have r1':zeE (some ⟨mk (nW c) f⟩) ((16*t+i:Nat):Int)=some (f (16*t+i),0):=zkd (by omega) ht
 unfold zkq
 constructor
 . intro h
   simp only[Tree.run0,Tree.run,w1,w2,r1',qY,h,zMw,qI,Bool.not_true,Bool.not_false,cnF,cnT]
 . intro a b h ha1 ha2 hb1 hb2
   simp only[Tree.run0,Tree.run,w1,w2,r1',qY,h,zDr (a:=a) (b:=b) ⟨ha1,by omega⟩ ⟨hb1,hb2⟩,qI,Bool.not_true,cnF,cnT,zAI g w hI ha1 ha2]
theorem zKa(hp:p<nP c){pg:Nat}(hpg:pg<256):match(List.range (P c p).qe.length).find? (za7 (P c p) pg)with
 | some i=>zik (some ⟨mk (nW c) f⟩) (tF c p:Int) (pg:Int)=some (⟨(pg:Int),(zi (P c p).qe i).frame+pg-(zi (P c p).qe i).page,(zi (P c p).qe i).qv⟩,0)
 | none=>∃ y,zik (some ⟨mk (nW c) f⟩) (tF c p:Int) (pg:Int)=some (y,92):=by
 have hx:=zcL g hp
 have hpl:=zqF g w hp
 have hroom:=hpl.room
 have hF:=g.qr
 have hnw:nW c=16*c.qr.toNat:=rfl
 have ht0:zbv (P c p)<=16:=zbS _ _
 have eq1:bop .quo .i64 (pg:Int) 16=((pg / 16:Nat):Int):=zch _ (by omega)
 have eq2:bop .rem .i64 (pg:Int) 16=((pg % 16:Nat):Int):=zhi _
 have hroot:=zAI g w hI (t:=(tF c p:Int)) (by omega) (by omega)
 have hw1:f (16*tF c p+pg / 16)=if zC (P c p) (pg / 16)=true then ziG ((tF c p+1+cnt (zC (P c p)) (pg / 16):Nat):Int) 0 else 0:=by
  rw[hI.tab _ ⟨by omega,by omega⟩]
  unfold WT
  rw[if_pos (by omega),show(16*tF c p+pg / 16) % 16=pg / 16 by omega]
 obtain ⟨l1,l2⟩:=zuq g w hI (t:=tF c p) (i:=pg / 16) (by omega) (by omega)
 have htp:zC (P c p) (pg / 16)=true->∃ T:Nat,T=tF c p+1+cnt (zC (P c p)) (pg / 16)/\16*T+15<nW c/\f (16*T+pg % 16)=pgV (P c p) pg:=fun ht=>by
  have hlt:cnt (zC (P c p)) (pg / 16)<zbv (P c p):=zhS (by omega) ht
  refine⟨_,rfl,by omega,?_⟩
  rw[hI.tab _ ⟨by omega,by omega⟩]
  unfold WT
  rw[if_neg (by omega),if_pos (by omega)]
  rw[show(16*(tF c p+1+cnt (zC (P c p)) (pg / 16))+pg % 16) / 16-(tF c p+1)=cnt (zC (P c p)) (pg / 16)by omega,zCv (by omega) ht]
  congr 1
  omega
 have d1:decide ((pg:Int)<0)=false:=decide_eq_false (by omega)
 have d2:decide ((pg:Int)>=256)=false:=decide_eq_false (by omega)
 cases hq:(List.range (P c p).qe.length).find? (za7 (P c p) pg)with
 | none=>
  dsimp only
  cases ht:zC (P c p) (pg / 16)with
  | false=>
   rw[ht]at hw1
   have k1':=l1 hw1
   unfold zik
   simp only[Tree.run0,Tree.run,qS,cnF,hroot,qY,Bool.not_true,d1,d2,eq1,k1',show((92:Int)==0)=false from rfl,Bool.not_false,cnT]
   exact⟨_,rfl⟩
  | true=>
   obtain ⟨T,hT,hT2,hfT⟩:=htp ht
   rw[ht,if_pos rfl,← hT]at hw1
   have k1':=l2 _ _ hw1 (by omega) (by omega) (by omega) (by omega)
   have hz:pgV (P c p) pg=0:=by unfold pgV;rw[hq]
   have k2':=(zuq g w hI (t:=T) (i:=pg % 16) (by omega) (by omega)).1 (hfT.trans hz)
   unfold zik
   simp only[Tree.run0,Tree.run,qS,cnF,hroot,qY,Bool.not_true,d1,d2,eq1,eq2,k1',k2',qI,show((92:Int)==0)=false from rfl,Bool.not_false,cnT]
   exact⟨_,rfl⟩
 | some i=>
  dsimp only
  have hi:=qF.1 (List.mem_of_find?_eq_some hq)
  have hqi:=List.find?_some hq
  have hpb:zdG (P c p) pg=true:=any_t.2 ⟨i,hi,hqi⟩
  have ht:zC (P c p) (pg / 16)=true:=by
   rw[zfT hx (by omega),any_t]
   exact⟨pg % 16,by omega,by rw[show 16*(pg / 16)+pg % 16=pg by omega];exact hpb⟩
  obtain ⟨T,hT,hT2,hfT⟩:=htp ht
  rw[if_pos ht,← hT]at hw1
  have k1':=l2 _ _ hw1 (by omega) (by omega) (by omega) (by omega)
  have hz:pgV (P c p) pg=ziG ((zi (P c p).qe i).frame+pg-(zi (P c p).qe i).page) (zi (P c p).qe i).qv:=by unfold pgV;rw[hq]
  simp only[za7,qH,qG]at hqi
  obtain ⟨b1,b2⟩:=hx.frame i hi
  obtain ⟨r1,r2,r3⟩:=zh8 g hp i hi
  have k2':=(zuq g w hI (t:=T) (i:=pg % 16) (by omega) (by omega)).2 _ _ (hfT.trans hz) (by omega) (by omega) r1 r2
  unfold zik
  simp only[Tree.run0,Tree.run,qS,cnF,hroot,qY,Bool.not_true,d1,d2,eq1,eq2,k1',k2',qI]
theorem zGW(hp:p<nP c){r:Int}(hr:0<=r/\r<=7){a:Int}(ha:0<=a):match adr c p r a with
 | some z=>zii (some ⟨mk (nW c) f⟩) (tF c p:Int) a r=some (z,0)
 | none=>∃ y e:Int,e ≠ 0/\zii (some ⟨mk (nW c) f⟩) (tF c p:Int) a r=some (y,e):=by
 have hpl:=zqF g w hp
 have hroom:=hpl.room
 have hF:=g.qr
 have hnw:nW c=16*c.qr.toNat:=rfl
 have hroot:=zAI g w hI (t:=(tF c p:Int)) (by omega) (by omega)
 have d1:decide (r<0)=false:=decide_eq_false (by omega)
 have d2:decide (r>7)=false:=decide_eq_false (by omega)
 have d3:decide (a<0)=false:=decide_eq_false (by omega)
 unfold zii adr
 simp only[Tree.run0,Tree.run,qS,cnF,hroot,qY,Bool.not_true,d1,d2,d3]
 by_cases h4:a<4096
 . rw [if_pos ⟨ha,h4⟩,decide_eq_false (show ¬ a>=4096 by omega)]
   obtain ⟨b,rfl⟩ : ∃ b:Nat,a=(b:Int):=⟨a.toNat,by omega⟩
   have eq1:bop .quo .i64 (b:Int) 16=((b / 16:Nat):Int):=zch _ (by omega)
   have eq2:bop .rem .i64 (b:Int) 16=((b % 16:Nat):Int):=zhi _
   rw[eq1,eq2,tnC]
   have hw:=zKa g w hI hp (pg:=b / 16) (by omega)
   cases hq:(List.range (P c p).qe.length).find? (za7 (P c p) (b / 16))with
   | none=>
    rw[hq]at hw
    obtain ⟨y,hw⟩:=hw
    simp only[hw,cnF,qY,show((92:Int)==0)=false from rfl,Bool.not_false,cnT]
    exact⟨_,_,by omega,rfl⟩
   | some i=>
    rw[hq]at hw
    dsimp only at hw ⊢
    simp only[hw,cnF,qY,qI,Bool.not_true]
    by_cases hz:bop .andNot .i64 r (zi (P c p).qe i).qv=0
    . rw[if_pos hz,hz]
      have hi:=qF.1 (List.mem_of_find?_eq_some hq)
      have hqi:=List.find?_some hq
      simp only[za7,qH,qG]at hqi
      obtain ⟨b1,b2⟩:=(zcL g hp).frame i hi
      simp only[qI,Bool.not_true,cnF]
      unfold zaW
      rw[hq]
      dsimp only
      rw[zam (((zi (P c p).qe i).frame+((b / 16:Nat):Int)-(zi (P c p).qe i).page)*16) (by omega) (by omega),zam _ (by omega) (by omega)]
    . rw[if_neg hz]
      have:(bop .andNot .i64 r (zi (P c p).qe i).qv==0)=false:=by simpa using hz
      simp only[this,Bool.not_false,cnT]
      exact⟨_,_,by omega,rfl⟩
 . rw[if_neg (by omega),decide_eq_true (show a>=4096 by omega)]
   exact⟨_,_,by omega,rfl⟩
end
structure zyD(c:za)(d:zR):Prop where
 qr:d.qr=c.qr
 outs:d.outs.length=nP c/\∀ p,p<nP c->zt d.outs p=(P c p).qW
 at_:d.at_.length=nP c/\∀ p,p<nP c->zt d.at_ p=((stA c p+4:Nat):Int)
 qx : ∀ e ∈ d.qi,e.2.length<4611686018427387904
structure ztN(c:za)(v:zae):Prop where
 qr:v.qr=c.qr
 len:v.qh.length=nP c
 place : ∀ p,p<nP c->(zaC v.qh p).place=full c p
 most : ∀ p,p<nP c->0<=(zaC v.qh p).most
 outs : ∀ p,p<nP c->(zaC v.qh p).outs=(P c p).qW
structure zlU(c:za)(s:zr)(D:zG)(d:zR)(v:zae):Prop where
 qr:s.qr=c.qr
 lay:s.lay=lay c
 qg:s.qg=some D
 duc:zod c D
 qf:s.qf=some d
 dev:zyD c d
 qh:s.qh=some v
 ward:ztN c v
structure zyB(x:zB):Prop where
 e1:0<=x.qz.e1/\x.qz.e1<4294967296
 e2:0<=x.qz.e2/\x.qz.e2<4294967296
 e3:0<=x.qz.e3/\x.qz.e3<4294967296
noncomputable def wrF(l m:List Int)(h:Nat->Int):Nat->Nat->Int
 | 0=>h
 | n+1=>over (wrF l m h n) (zt l n).toNat 1 fun _=>zt m n
noncomputable def inF(E:List (zQ × List Int))(p e i:Int):Int × Int:=
 match zes (fun x:zQ=>some ((p==x.qk)&&((e==x.qu)&&true))) E with
 | some r=>if i>=((r.getD []).length:Int)then(7,0)else(0,zt (r.getD []) i.toNat)
 | none=>(7,0)
noncomputable def ze9(c:za)(p:Nat)(x:zB)(f:Nat->Int):Int × (Nat->Int):=
 if(zc0 c p x.qz.e1).2=0 then
  if x.qz.e3=0 ∨ x.qz.e3>(zc0 c p x.qz.e1).1 then(3,f)
  else match zeQ c p 1 x.qz.e2 x.qz.e3.toNat with
   | none=>(4,f)
   | some l=>zgC c p x.qz.e1 (l.map fun z=>f z.toNat) f
 else((zc0 c p x.qz.e1).2,f)
noncomputable def zeK(c:za)(p:Nat)(x:zB)(f:Nat->Int):(Int × Int × Int) × (Nat->Int):=
 if(zcw c p x.qz.e1 f).1=0 then
  match zeQ c p 2 x.qz.e2 (zcw c p x.qz.e1 f).2.1.length with
  | none=>((4,0,0),f)
  | some l=>((0,((zcw c p x.qz.e1 f).2.1.length:Int),(zcw c p x.qz.e1 f).2.2),wrF l (zcw c p x.qz.e1 f).2.1 (zfw c p x.qz.e1 f) l.length)
 else(((zcw c p x.qz.e1 f).1,0,0),f)
noncomputable def zeT(c:za)(p:Nat)(f:Nat->Int):Int × (Nat->Int):=
 if f (stA c p+4)>=(P c p).qW then(5,f)else(0,over f (stA c p+4) 1 fun _=>f (stA c p+4)+1)
noncomputable def cDo(c:za)(E:List (zQ × List Int))(p:Nat)(e:Int)(k:Nat)(x:zB)(f:Nat->Int):(Int × Int × Int) × (Nat->Int):=
 match k with
 | 0=>((0,0,0),over f (stA c p) 1 fun _=>1)
 | 1=>(((ze9 c p x f).1,0,0),(ze9 c p x f).2)
 | 2=>zeK c p x f
 | 3=>(zhA c p x.qz.e1 f,f)
 | 4=>(((inF E p e x.qz.e1).1,(inF E p e x.qz.e1).2,0),f)
 | 5=>(((zeT c p f).1,0,0),(zeT c p f).2)
 | 6=>((0,(p:Int),e),f)
 | _=>((0,0,0),over f (stA c p) 1 fun _=>3)
def zua(x:zB)(t:Int × Int × Int):zB:=⟨⟨x.qz.e0,t.1,t.2.1,t.2.2,x.qz.e4,x.qz.e5,x.qz.e6,x.qz.e7,x.qz.e8,x.qz.e9,x.qz.e10,x.qz.e11,x.qz.e12,x.qz.e13,x.qz.e14,x.qz.e15⟩,x.pC⟩
theorem zsk{K V:Type}{q:K->Bool} : ∀ E:List (K × V),mix (fun x=>some (q x)) E=some (E.findIdx? fun e=>q e.1)
 | []=>rfl
 | (k,v) :: E=>by
  unfold mix
  rw[zsk E,List.findIdx?_cons]
  cases q k <;> rfl
theorem zDR{K V:Type}{q:K->Bool}(E:List (K × V)) : ∃ r,zes (fun x=>some (q x)) E=some r/\∀ v,r=some v->∃ k,(k,v) ∈ E:=by
 unfold zes
 rw[zsk]
 cases h:E.findIdx? fun e=>q e.1 with
 | none=>exact⟨none,rfl,fun _ h=>by cases h⟩
 | some j=>
  refine⟨_,rfl,fun v hv=>?_⟩
  dsimp only at hv
  cases he:E[j]? with
  | none=>rw[he]at hv;cases hv
  | some e=>
   rw[he]at hv
   cases hv
   exact⟨e.1,List.mem_of_getElem? he⟩
theorem ze6{n:Int}(h:0<=n/\n<=100):zi8 n=⟨n,0,0⟩:=by
 unfold zi8
 rw[zbR (by omega) (by omega)]
theorem ztu{c:za}(g:zaz c)(w:zei c){p:Nat}(hp:p<nP c):stA c p+5<=nW c/\nW c<=16384/\stA c p+5<=cAt c 0/\16*kF0 c<=stA c p:=by
 have h1:=zqD hp
 have h2:=zqg g w
 have h3:cAt c 0=16*kF0 c+2+24*nP c:=rfl
 have h4:pAt c p=16*kF0 c+2+24*p:=rfl
 have h5:=(zgZ g w).2
 unfold stA;omega
theorem zhb{c:za}(g:zaz c){p:Nat}(hp:p<nP c):(0<=(P c p).qR/\(P c p).qR<=15)/\(0<=(P c p).qE/\(P c p).qE<=16)/\(0<=(P c p).qW/\(P c p).qW<=16)/\0<=(P c p).entry/\(P c p).entry<=4095:=by
 have h:=g.part p hp
 unfold zev zmf zeV at h
 simp only[qH,qG]at h
 omega
section
variable {c:za} (g:zaz c) (w:zei c)
include g w
section
variable {f:Nat->Int} {p:Nat} (hI:zry c p f) {v:zae} (hv:ztN c v) (hp:p<nP c)
include hI hv hp
theorem zEk : ∃ a b d e,znq (some v) (p:Int) false (mk (nW c) f)=some (⟨full c p,a,b,d,e⟩,mk 5 fun i=>f (stA c p+i),0,⟨mk (nW c) f⟩):=by
 have hF:=g.qr
 obtain ⟨n1,n2,_⟩:=ztu g w hp
 obtain ⟨s0,s1,s2,s3,s4⟩:=hI.st
 obtain ⟨_,_,o1,_⟩:=zhb g hp
 have e:((c.qr.toNat:Nat):Int)=c.qr:=by omega
 have k1':zdJ (some ⟨mk (nW c) f⟩)=some ((c.qr.toNat:Nat):Int):=zfh hI.w.u c.qr.toNat (by omega)
 have hat:znr (some v) (p:Int) false (mk (nW c) f)=some (⟨full c p,(zaC v.qh p).entry,(zaC v.qh p).most,(P c p).qW,⟨(),()⟩⟩,0,⟨mk (nW c) f⟩):=by
  unfold znr
  simp only[Tree.run0,Tree.run,k1',qY,qP,qS,qA,hv.qr,e,cnT,cnF,qI,Bool.not_true,hv.len,decide_eq_false (show ¬ (p:Int)<0 by omega),decide_eq_false (show ¬ (p:Int)>=(nP c:Int)by omega),zo hp,tnC,hv.place p hp,hv.outs p hp]
 have t1':zc2 (some ⟨mk (nW c) f⟩) (full c p).state 5=some (mk 5 fun i=>f (stA c p+i),0):=zro (f:=f) (a:=stA c p) (n:=5) (by omega) (by omega)
 have hr : ∀ en cr,zrf (⟨full c p,en,(zaC v.qh p).most,(P c p).qW,cr⟩:zX) (mk 5 fun i=>f (stA c p+i))=some true:=fun en cr=>by
  have hm:=hv.most p hp
  have a0:zt (mk 5 fun i=>f (stA c p+i)) 0=f (stA c p):=zbf (by omega) _
  have a1:zt (mk 5 fun i=>f (stA c p+i)) 1=0:=(zbf (by omega) _).trans s1
  have a2:zt (mk 5 fun i=>f (stA c p+i)) 2=0:=(zbf (by omega) _).trans s2
  have a3:zt (mk 5 fun i=>f (stA c p+i)) 3=0:=(zbf (by omega) _).trans s3
  have a4:zt (mk 5 fun i=>f (stA c p+i)) 4=f (stA c p+4):=zbf (by omega) _
  have b2:(f (stA c p)==2)=false:=by rcases s0 with h | h | h <;> rw[h] <;> rfl
  unfold zrf
  simp only[Tree.run0,Tree.run,zP,a0,a1,a2,a3,a4,show zO 0 5=true from rfl,show zO 1 5=true from rfl,show zO 2 5=true from rfl,show zO 3 5=true from rfl,show zO 4 5=true from rfl,cnT,decide_eq_false (show ¬ f (stA c p)>3 by omega),decide_eq_false (show ¬ (0:Int)>(zaC v.qh p).most by omega),decide_eq_false (show ¬ f (stA c p+4)>(P c p).qW by omega),show decide ((0:Int)>6)=false from rfl,qI,Bool.not_true,b2,Bool.not_false,cnF]
 refine⟨(zaC v.qh p).entry,(zaC v.qh p).most,(P c p).qW,⟨(),()⟩,?_⟩
 unfold znq
 simp only[Tree.run0,Tree.run,hat,t1',hr,qY,qI,Bool.not_true,cnF]
theorem zwz(z:Int):zko (some v) (p:Int) z (mk (nW c) f)=some (0,⟨mk (nW c) (over f (stA c p) 1 fun _=>z)⟩):=by
 obtain ⟨n1,n2,_⟩:=ztu g w hp
 obtain ⟨a,b,d,e,k1'⟩:=zEk g w hI hv hp
 have e0:i64.wrap ((full c p).state+0)=((stA c p:Nat):Int):=zz _ _ (by show((pAt c p+19:Nat):Int)+0=((pAt c p+19:Nat):Int);omega) (by omega)
 have w1':zdP ((stA c p:Nat):Int) z (mk (nW c) f)=some (0,⟨mk (nW c) (over f (stA c p) 1 fun _=>z)⟩):=zlS (by omega) (by omega) z
 unfold zko
 simp only[Tree.run0,Tree.run,k1',qY,qI,Bool.not_true,cnF,e0,w1']
end
section
variable {f:Nat->Int} {p:Nat} (hI:zry c p f) {d:zR} (hd:zyD c d) (hp:p<nP c)
include hI hd hp
theorem zDN:zra (some d) (some ⟨mk (nW c) f⟩) [(p:Int)]=some 0:=by
 have hF:=g.qr
 have e:((c.qr.toNat:Nat):Int)=c.qr:=by omega
 have k1':zdJ (some ⟨mk (nW c) f⟩)=some ((c.qr.toNat:Nat):Int):=zfh hI.w.u c.qr.toNat (by omega)
 have e1:i64.wrap ((0:Int)+1)=1:=rfl
 unfold zra zz9
 simp only[Tree.run,qS,cnF]
 rw[zpf]
 simp only[zp5,Tree.run,qO,show decide ((0:Int)<((1:Nat):Int))=true from rfl,show zO 0 1=true from rfl,cnT,show zt [(p:Int)] (0:Int).toNat=(p:Int)from rfl,decide_eq_false (show ¬ (p:Int)<0 by omega),qA,qP,hd.at_.1,decide_eq_false (show ¬ (p:Int)>=(nP c:Int)by omega),cnF,e1]
 rw[zpf]
 simp only[zp5,Tree.run,qO,show decide ((1:Int)<((1:Nat):Int))=false from rfl,cnF,k1',qY,qA,qP,hd.qr,e,cnT,qI,Bool.not_true]
theorem zOV:znh (some d) (p:Int) (mk (nW c) f)=some ((zeT c p f).1,0,⟨mk (nW c) (zeT c p f).2⟩):=by
 obtain ⟨n1,n2,_⟩:=ztu g w hp
 obtain ⟨_,_,o1,_⟩:=zhb g hp
 obtain ⟨u1,u2⟩:=hI.w.u (stA c p+4)
 have k1':=zDN g w hI hd hp
 have r1':zeE (some ⟨mk (nW c) f⟩) ((stA c p+4:Nat):Int)=some (f (stA c p+4),0):=zkd (by omega) (by omega)
 have q1:IntKind.u64.wrap (f (stA c p+4))=f (stA c p+4):=by simp[IntKind.wrap,IntKind.bits,IntKind.signed];omega
 have q2:IntKind.u64.wrap (P c p).qW=(P c p).qW:=by simp[IntKind.wrap,IntKind.bits,IntKind.signed];omega
 unfold znh zeT
 simp only[Tree.run0,Tree.run,k1',qY,qI,Bool.not_true,cnF,qA,qP,cnT,hd.at_.1,hd.outs.1,zo hp,tnC,hd.at_.2 p hp,hd.outs.2 p hp,r1',q1,q2]
 by_cases h:f (stA c p+4)>=(P c p).qW
 . rw[decide_eq_true h,if_pos h];rfl
 . have q3:u32.wrap (f (stA c p+4)+1)=f (stA c p+4)+1:=zbR (by omega) (by omega)
   have w1':zdP ((stA c p+4:Nat):Int) (f (stA c p+4)+1) (mk (nW c) f)=some _:=zlS (by omega) (by omega) _
   rw[decide_eq_false h,if_neg h,q3]
   simp only[cnF,w1',qY]
omit hI hp in
theorem in_v(p e:Int){i:Int}(hi:0<=i/\i<4294967296):zqY (some d) p e i=some (inF d.qi p e i):=by
 unfold zqY inF
 simp only[Tree.run0,Tree.run,qS,cnF,qA,cnT,qP]
 obtain ⟨r,h1,h2⟩:=zDR (q:=fun x:zQ=>(p==x.qk)&&((e==x.qu)&&true)) d.qi
 rw[h1]
 have hl:(r.getD []).length<4611686018427387904:=by
  cases r with
  | none=>show 0<_;omega
  | some y=>
   obtain ⟨k,hk⟩:=h2 y rfl
   exact hd.qx _ hk
 have q1:IntKind.u64.wrap i=i:=by simp[IntKind.wrap,IntKind.bits,IntKind.signed];omega
 have q2:IntKind.u64.wrap ((r.getD []).length:Int)=((r.getD []).length:Int):=by simp[IntKind.wrap,IntKind.bits,IntKind.signed];omega
 simp only[qY,q1,q2]
 by_cases h:i>=((r.getD []).length:Int)
 . rw[decide_eq_true h,if_pos h];rfl
 . rw[decide_eq_false h,if_neg h,cnF,zbD hi.1 (by omega)];rfl
end
end
theorem zu4{c:za}{p:Nat}{r a:Int}{i:Nat}(h:zeQ c p r a i=none) : ∀ {n:Nat},i<=n->zeQ c p r a n=none
 | 0,hn=>by
  obtain rfl:i=0:=by omega
  exact h
 | n+1,hn=>by
  by_cases e:i=n+1
  . subst e;exact h
  . unfold zeQ
    rw[zu4 h (show i<=n by omega)];rfl
theorem zFm{f:Nat->Int}(hf:U32 f)(l:List Int)(j:Nat):0<=zt (l.map fun z=>f z.toNat) j/\zt (l.map fun z=>f z.toNat) j<4294967296:=by
 by_cases h:j<l.length
 . have:zt (l.map fun z=>f z.toNat) j=f (l[j]).toNat:=by simp[zt,List.getD,h]
   rw[this];exact hf _
 . have:zt (l.map fun z=>f z.toNat) j=0:=by simp[zt,List.getD,h]
   rw[this];omega
theorem zht{α:Type}(xs:List α){i:Nat}(h:i<xs.length){y:α}(hy:y=xs[i]):xs.take i++[y]=xs.take (i+1):=by
 subst hy;simp
theorem rgc(n b:Int)(h:decide (0<=n/\n<=b)=true):0<=n/\n<=b:=of_decide_eq_true h
theorem zmz(j:Nat):0<=zt [] j/\zt [] j<4294967296:=⟨Int.le_refl _,by show(0:Int)<_;omega⟩
theorem zDC{f:Nat->Int}(hf:U32 f){h W:Nat}(hW:W<=16):(zbn f h W).length<=16/\∀ j,0<=zt (zbn f h W) j/\zt (zbn f h W) j<4294967296:=by
 unfold zbn
 cases (List.range (h+W)).any fun i=>!(f i==0)with
 | false=>exact⟨by show 0<=16;omega,zmz⟩
 | true=>
  cases hb:zfj f h W with
  | false=>exact⟨by show 0<=16;omega,zmz⟩
  | true=>
   unfold zfj zet at hb
   simp only[qH,qG]at hb
   simp only[cnT,zP]
   refine⟨by omega,fun j=>?_⟩
   by_cases hj:j<(f (h-1)).toNat
   . rw[zbf hj];exact hf _
   . rw[zBa (by omega)];omega
section
variable {c:za} (g:zaz c) (w:zei c) {s:zr} {D:zG} {d:zR} {v:zae} (hs:zlU c s D d v) {f:Nat->Int} {p:Nat} (hI:zry c p f) (hp:p<nP c)
include g w hs
theorem zsF(q:Int)(p:Int):(0<=(zc0 c p q).2/\(zc0 c p q).2<=2)/\0<=(zc0 c p q).1/\(zc0 c p q).1<=16:=by
 unfold zc0
 cases h:zbk c p q with
 | none=>exact⟨rgc 1 2 rfl,rgc 0 16 rfl⟩
 | some x=>
  obtain ⟨_,_,k,_,_,_,_,_,hk1,hk⟩:=za6 g w hs.duc h
  obtain ⟨w1,w2⟩:=(g.chan k hk).1.qx
  dsimp only
  cases x.qb with
  | false=>exact⟨rgc 2 2 rfl,rgc 0 16 rfl⟩
  | true=>rw[hk1,tnC];exact⟨⟨Int.le_refl _,by show(0:Int)<=2;omega⟩,by show 0<=(Ch c k).qx;omega,by show(Ch c k).qx<=16;omega⟩
theorem zv1(q p:Int)(m:List Int)(h:Nat->Int):0<=(zgC c p q m h).1/\(zgC c p q m h).1<=5:=by
 unfold zgC
 cases zbk c p q with
 | none=>exact rgc 1 5 rfl
 | some x=>
  dsimp only
  cases x.qb with
  | false=>exact rgc 2 5 rfl
  | true=>
   dsimp only [cnT]
   split
   . exact rgc 3 5 rfl
   . unfold zye
     dsimp only
     cases (zdH (Ch c x.ql.toNat) (stW c h x.ql.toNat) m).1 with
     | false=>exact rgc 5 5 rfl
     | true=>exact rgc 0 5 rfl
include hI
theorem zqu (q:Int):(0<=(zcw c p q f).1/\(zcw c p q f).1<=6)/\(zcw c p q f).2.1.length<=16/\∀ j,0<=zt (zcw c p q f).2.1 j/\zt (zcw c p q f).2.1 j<4294967296:=by
 unfold zcw
 cases h:zbk c p q with
 | none=>exact⟨rgc 1 6 rfl,Nat.zero_le _,zmz⟩
 | some x=>
  obtain ⟨p',q',k,hpp,rfl,hp',hq',rfl,hk1,hk⟩:=za6 g w hs.duc h
  obtain rfl:p=p':=by omega
  dsimp only
  cases hsrc:(Pt c p q').qb with
  | true=>exact⟨rgc 2 6 rfl,Nat.zero_le _,zmz⟩
  | false=>
   rw[hk1,tnC]
   dsimp only [cnF]
   have hF:=zwG g w hs.duc
   obtain ⟨hx,_⟩:=g.chan k hk
   obtain ⟨j1,j2,_⟩:=zp0 g w hs.duc hk (zcV hp' hq' hk1 hsrc)
   have hpt:=zoZ g w hs.duc hk j1
   have hB:=zvQ hI.w.u hF hx (hI.w.pt p q' k rfl hp' hq' hk1 hsrc hk)
   obtain ⟨w1,w2⟩:=hx.qx
   have hu:=zCG hI.w.u (psC c k (zcC c k p q')) (prt (Ch c k))
   unfold ptW zdU
   rcases hx.kind with h1 | h2
   . rw[if_neg (show ¬ (Ch c k).kind=2 by omega)]
     split
     . exact⟨rgc 6 6 rfl,Nat.zero_le _,zmz⟩
     . refine⟨⟨Int.le_refl _,by show(0:Int)<=6;omega⟩,?_⟩
       exact zDC hu (show cW (Ch c k)<=16 by unfold cW;omega)
   . rw [if_pos h2]
     obtain ⟨_,_,w3,w4,d1,d2,_,_,_,bS⟩:=zsp hI.w.u hF hx h2
     rw[bS]at hB
     obtain ⟨m1,m2,_⟩:=zmK hu hB
     split
     . exact⟨rgc 6 6 rfl,Nat.zero_le _,zmz⟩
     . rename_i hl
       refine⟨⟨Int.le_refl _,by show(0:Int)<=6;omega⟩,?_⟩
       generalize ptM (win f (psC c k (zcC c k p q')) (prt (Ch c k))) (cW (Ch c k)) (cD (Ch c k))=l at *
       have hm:zW l 0 ∈ l:=by
        have:zW l 0=l[0]:=by simp[zW,List.getD,show 0<l.length by omega]
        rw[this];exact List.getElem_mem _
       obtain ⟨a1,a2,a3⟩:=m1 _ hm
       exact⟨by show(zW l 0).length<=16;omega,a3⟩
include hp
theorem zsz{r a:Int}(hr:0<=r/\r<=7)(ha:0<=a/\a<4294967296){n:Nat}(hn:n<=100)(e:Int)(x:zB) :
 zpC a (n:Int) r (some s) (p:Int) e x (mk (nW c) f)=some (match zeQ c p r a n with | some l=>(l,true,⟨some s,some ⟨mk (nW c) f⟩,(p:Int),e,x⟩) | none=>([],false,⟨some s,some ⟨mk (nW c) f⟩,(p:Int),e,x⟩)):=by
 have hat:zn (lay c).qq p=full c p:=(zqE hp).trans (if_pos hp)
 have hpl:(lay c).qq.length=nP c:=zi3 c _
 have key : ∀ m i,i+m=n->∀ l,zeQ c p r a i=some l->zwb a (n:Int) r (some s) (p:Int) e x (mk (nW c) f) (.l0 (i:Int) l)=some (match zeQ c p r a n with | some l=>(l,true,⟨some s,some ⟨mk (nW c) f⟩,(p:Int),e,x⟩) | none=>([],false,⟨some s,some ⟨mk (nW c) f⟩,(p:Int),e,x⟩)):=by
  intro m
  induction m with
  | zero=>
   intro i hi l hl
   obtain rfl:i=n:=by omega
   rw[hl,ztb]
   simp only[zvk,z8 (qD),cnF,Tree.run]
  | succ m ih=>
   intro i hi l hl
   have hin:i<n:=by omega
   obtain ⟨hll,_⟩:=zfy g w hp hl
   have e1:i64.wrap a=a:=zam _ (by omega) (by omega)
   have e2:i64.wrap (a+(i:Int))=a+(i:Int):=zam _ (by omega) (by omega)
   have k:=zGW g w hI hp hr (a:=a+(i:Int)) (by omega)
   have hs1:zeQ c p r a (i+1)=(adr c p r (a+(i:Int))).map fun z=>l++[z]:=by
    show(zeQ c p r a i).bind _=_
    rw[hl];rfl
   rw[ztb]
   simp only[zvk,zY hin,cnT,qA,qP,hs.lay,hpl,zo hp,tnC,hat,e1,e2,Tree.run]
   cases hq:adr c p r (a+(i:Int))with
   | some z=>
    rw[hq]at k hs1
    have k1':zii (some ⟨mk (nW c) f⟩) (full c p).root (a+(i:Int)) r=some (z,0):=k
    simp only[k1',qY,qI,Bool.not_true,cnF,qO,zaZ (show(l.length+1)*8<=140737488355328 by omega),zj i (show i<4611686018427387904 by omega)]
    exact ih (i+1) (by omega) _ hs1
   | none=>
    rw[hq]at k hs1
    obtain ⟨y,er,h0,k⟩:=k
    have k1':zii (some ⟨mk (nW c) f⟩) (full c p).root (a+(i:Int)) r=some (y,er):=k
    have hb:(er==0)=false:=by simpa using h0
    simp only[k1',qY,hb,Bool.not_false,cnT]
    rw[zu4 (i:=i+1) hs1 (by omega)]
 unfold zpC zFf
 exact key n 0 (Nat.zero_add _) [] rfl
theorem zEv(e:Int){x:zB}(hx:zyB x):ztj (some s) (p:Int) e x (mk (nW c) f)=some (⟨(ze9 c p x f).1,0,0⟩,0,⟨some s,some ⟨mk (nW c) (ze9 c p x f).2⟩,(p:Int),e,x⟩):=by
 obtain ⟨r1,r2⟩:=zsF g w hs x.qz.e1 p
 have e1:i64.wrap x.qz.e1=x.qz.e1:=zam _ (by have:=hx.e1;omega) (by have:=hx.e1;omega)
 have e3:i64.wrap x.qz.e3=x.qz.e3:=zam _ (by have:=hx.e3;omega) (by have:=hx.e3;omega)
 have i1:zO 1 16=true:=rfl
 have i2:zO 2 16=true:=rfl
 have i3:zO 3 16=true:=rfl
 have m1':zpB (some D) (p:Int) x.qz.e1=some _:=zBT g w hs.duc p x.qz.e1
 unfold ztj zE4 ze9
 simp only[Tree.run,i1,i2,i3,cnT,qA,qP,hs.qg,e1,e3,m1',qY]
 by_cases h0:(zc0 c p x.qz.e1).2=0
 . rw [if_pos h0,h0]
   simp only[qI,Bool.not_true,cnF]
   by_cases h3:x.qz.e3=0 ∨ x.qz.e3>(zc0 c p x.qz.e1).1
   . rw[if_pos h3]
     by_cases h4:x.qz.e3=0
     . rw[h4]
       simp only[qI,cnT,ze6 (n:=3) (by omega)]
     . have hb:(x.qz.e3==0)=false:=by simpa using h4
       rw[hb,decide_eq_true (show x.qz.e3>(zc0 c p x.qz.e1).1 by omega)]
       simp only[cnF,cnT,ze6 (n:=3) (by omega)]
   . rw[if_neg h3]
     have hb:(x.qz.e3==0)=false:=by simpa using fun h=>h3 (.inl h)
     rw[hb,decide_eq_false (show ¬ x.qz.e3>(zc0 c p x.qz.e1).1 from fun h=>h3 (.inr h))]
     obtain ⟨n,hn⟩ : ∃ n:Nat,x.qz.e3=(n:Int):=⟨x.qz.e3.toNat,by have:=hx.e3;omega⟩
     have hn16:n<=16:=by omega
     have k1':=zsz g w hs hI hp (r:=1) (by omega) hx.e2 (n:=n) (by omega) e x
     rw[hn,tnC]
     cases hl:zeQ c p 1 x.qz.e2 n with
     | none=>
      rw[hl]at k1'
      simp only[cnF,k1',qY,Bool.not_false,cnT,qP,ze6 (n:=4) (by omega)]
     | some l=>
      rw[hl]at k1'
      simp only[cnF,k1',qY,Bool.not_true]
      obtain ⟨l1,l2⟩:=zfy g w hp hl
      have lp:=zK (n:=l.length) (f:=fun i (m:List Int)=>zs0 (some s) (p:Int) e x (mk (nW c) f) (.l2 (l,true,⟨some s,some ⟨mk (nW c) f⟩,(p:Int),e,x⟩) (i:Int) m)) (S:=fun i=>(l.map fun z=>f z.toNat).take i) (fun i hi=>by
       have hat:zt l i=l[i]:=by simp[zt,List.getD,hi]
       obtain ⟨b,hb⟩:=l2 l[i] (List.getElem_mem _)
       obtain ⟨y,_,hy,hy2,_⟩:=zlX g w hp hb
       have hN:=(zgZ g w).2
       have q1':zeE (some ⟨mk (nW c) f⟩) (y:Int)=some (f y,0):=zkd (by omega) hy2
       have hm:i<(l.map fun z=>f z.toNat).length:=by rw[List.length_map];exact hi
       have ht:f y=(l.map fun z=>f z.toNat)[i]:=by rw[List.getElem_map,hy,tnC]
       rw[zs1]
       simp only[zve,zY hi,zo hi,cnT,qP,tnC,hat,hy,q1',qY,List.length_take,qO,zaZ (show(min i (l.map fun z=>f z.toNat).length+1)*4<=140737488355328 by rw[List.length_map];omega),zht (l.map fun z=>f z.toNat) hm ht,zj i (show i<4611686018427387904 by omega),Tree.run])
      refine Eq.trans (show _=zs0 (some s) (p:Int) e x (mk (nW c) f) (.l2 (l,true,⟨some s,some ⟨mk (nW c) f⟩,(p:Int),e,x⟩) ((0:Nat):Int) ((l.map fun z=>f z.toNat).take 0))from rfl) (lp.trans ?_)
      obtain ⟨q1',_⟩:=zBX g w hs.duc hI.w x.qz.e1 (zFm hI.w.u l)
      obtain ⟨t1,t2⟩:=zv1 g w hs x.qz.e1 p (l.map fun z=>f z.toNat) f
      have htk:(l.map fun z=>f z.toNat).take l.length=l.map fun z=>f z.toNat:=List.take_of_length_le (by rw[List.length_map];exact qD)
      rw[zs1]
      simp only[zve,z8 (qD),cnF,qA,qP,cnT,hs.qg,e1,htk,q1',qY,ze6 (n:=(zgC c p x.qz.e1 (l.map fun z=>f z.toNat) f).1) ⟨t1,by omega⟩,Tree.run]
 . rw[if_neg h0]
   have hb:((zc0 c p x.qz.e1).2==0)=false:=by simpa using h0
   simp only[hb,Bool.not_false,cnT,ze6 (n:=(zc0 c p x.qz.e1).2) (by omega)]
theorem zEu(e:Int){x:zB}(hx:zyB x):ztk (some s) (p:Int) e x (mk (nW c) f)=some (⟨(zeK c p x f).1.1,(zeK c p x f).1.2.1,(zeK c p x f).1.2.2⟩,0,⟨some s,some ⟨mk (nW c) (zeK c p x f).2⟩,(p:Int),e,x⟩):=by
 obtain ⟨r1,r2,r3⟩:=zqu g w hs hI x.qz.e1
 have e1:i64.wrap x.qz.e1=x.qz.e1:=zam _ (by have:=hx.e1;omega) (by have:=hx.e1;omega)
 have i1:zO 1 16=true:=rfl
 have i2:zO 2 16=true:=rfl
 have m1':=zHX g w hs.duc hI.w x.qz.e1
 unfold ztk zE5 zeK
 simp only[Tree.run,i1,i2,cnT,qA,qP,hs.qg,e1,m1',qY,qI,Bool.not_true,cnF]
 by_cases h0:(zcw c p x.qz.e1 f).1=0
 . rw [if_pos h0,h0]
   simp only[qI,Bool.not_true,cnF]
   have k1':=zsz g w hs hI hp (r:=2) (by omega) hx.e2 (n:=(zcw c p x.qz.e1 f).2.1.length) (by omega) e x
   cases hl:zeQ c p 2 x.qz.e2 (zcw c p x.qz.e1 f).2.1.length with
   | none=>
    rw[hl]at k1'
    simp only[k1',qY,Bool.not_false,cnT,qP,ze6 (n:=4) (by omega)]
   | some l=>
    rw[hl]at k1'
    obtain ⟨t1',_⟩:=zCD g w hs.duc hI.w x.qz.e1
    obtain ⟨l1,l2⟩:=zfy g w hp hl
    simp only[k1',qY,Bool.not_true,cnF,cnT,qA,qP,hs.qg,t1',qI]
    generalize hmsg:(zcw c p x.qz.e1 f).2.1=msg at *
    generalize (zcw c p x.qz.e1 f).2.2=bs at *
    have lp:=zK (n:=l.length) (f:=fun i (m:List Int)=>zs2 (some s) (p:Int) e x (mk (nW c) f) (.l0 (0,msg,bs,0,⟨mk (nW c) f⟩) (l,true,⟨some s,some ⟨mk (nW c) f⟩,(p:Int),e,x⟩) (i:Int) m)) (S:=fun i=>mk (nW c) (wrF l msg (zfw c p x.qz.e1 f) i)) (fun i hi=>by
     have hat:zt l i=l[i]:=by simp[zt,List.getD,hi]
     obtain ⟨b,hb⟩:=l2 l[i] (List.getElem_mem _)
     obtain ⟨y,_,hy,hy2,_⟩:=zlX g w hp hb
     have hN:=(zgZ g w).2
     have q1':zdP (y:Int) (zt msg i) (mk (nW c) (wrF l msg (zfw c p x.qz.e1 f) i))=some _:=zlS (by omega) (by omega) _
     have hw:wrF l msg (zfw c p x.qz.e1 f) (i+1)=over (wrF l msg (zfw c p x.qz.e1 f) i) y 1 fun _=>zt msg i:=by
      show over _ (zt l i).toNat 1 _=_
      rw[hat,hy,tnC]
     rw[zs3]
     simp only[zvf,zY hi,zo hi,zo (show i<msg.length by omega),cnT,tnC,hat,hy,q1',qY,zj i (show i<4611686018427387904 by omega),Tree.run,hw])
    refine Eq.trans (show _=zs2 (some s) (p:Int) e x (mk (nW c) f) (.l0 (0,msg,bs,0,⟨mk (nW c) f⟩) (l,true,⟨some s,some ⟨mk (nW c) f⟩,(p:Int),e,x⟩) ((0:Nat):Int) (mk (nW c) (wrF l msg (zfw c p x.qz.e1 f) 0)))from rfl) (lp.trans ?_)
    rw[zs3]
    simp only[zvf,z8 (qD),cnF,zbR (n:=(msg.length:Int)) (by omega) (by omega),Tree.run]
 . rw[if_neg h0]
   have hb:((zcw c p x.qz.e1 f).1==0)=false:=by simpa using h0
   simp only[hb,Bool.not_false,cnT,ze6 (n:=(zcw c p x.qz.e1 f).1) (by omega)]
end
section
variable {c:za} (g:zaz c) (w:zei c) {s:zr} {D:zG} {d:zR} {v:zae} (hs:zlU c s D d v) {f:Nat->Int}
include g w hs
theorem zr2(hu:U32 f):zdJ (some ⟨mk (nW c) f⟩)=some c.qr:=by
 have hF:=g.qr
 have k1':zdJ (some ⟨mk (nW c) f⟩)=some ((c.qr.toNat:Nat):Int):=zfh hu c.qr.toNat (by omega)
 rw[k1']
 congr 1
 omega
theorem zvm(hI:InvC c f):ztq (some s) (mk (nW c) f)=some (0,⟨mk (nW c) (zbg c f (nC c))⟩):=by
 have t1':=zJ7 g w hs.duc hI.w
 unfold ztq
 simp only[Tree.run0,Tree.run,qS,cnF,zr2 g w hs hI.w.u,qY,qA,cnT,qP,hs.qr,qI,Bool.not_true,hs.qg,t1']
variable {p:Nat} (hI:zry c p f) (hp:p<nP c)
include hI hp
theorem zwt(q:Int):0<=(zhA c p q f).1/\(zhA c p q f).1<=1:=by
 unfold zhA
 cases zbk c p q with
 | none=>exact rgc 1 1 rfl
 | some x=>
  dsimp only
  cases x.qb <;> exact⟨Int.le_refl _,by show(0:Int)<=1;omega⟩
theorem zDY:0<=(zeT c p f).1/\(zeT c p f).1<=5:=by
 unfold zeT
 split
 . exact rgc 5 5 rfl
 . exact rgc 0 5 rfl
theorem zAM(E:List (zQ × List Int))(q e i:Int):0<=(inF E q e i).1/\(inF E q e i).1<=7:=by
 unfold inF
 split
 . split
   . exact rgc 7 7 rfl
   . exact rgc 0 7 rfl
 . exact rgc 7 7 rfl
theorem zxC{e:Int}(he:0<=e/\e<1073741824){k:Nat}(hk:k<8){x:zB}(hx:zyB x) :
 zeB (some s) (p:Int) e (k:Int) x (mk (nW c) f)=some (zua x (cDo c d.qi p e k x f).1,cond (Nat.beq k 5&&(cDo c d.qi p e k x f).1.1==0) x.qz.e1 0,(Nat.beq k 5&&(cDo c d.qi p e k x f).1.1==0),0,⟨mk (nW c) (cDo c d.qi p e k x f).2⟩):=by
 have hpl:(lay c).qq.length=nP c:=zi3 c _
 have hP:nP c<=8:=g.few.parts
 have i1:zO 1 16=true:=rfl
 have i2:zO 2 16=true:=rfl
 have i3:zO 3 16=true:=rfl
 have e1:i64.wrap x.qz.e1=x.qz.e1:=zam _ (by have:=hx.e1;omega) (by have:=hx.e1;omega)
 have hwr:zpv (some s) (p:Int) (k:Int)=some 0:=by
  unfold zpv
  simp only[Tree.run0,Tree.run,decide_eq_false (show ¬ (p:Int)<0 by omega),cnF,qA,cnT,qP,hs.lay,hpl,decide_eq_false (show ¬ (p:Int)>=(nP c:Int)by omega),decide_eq_false (show ¬ (k:Int)<0 by omega),decide_eq_false (show ¬ (k:Int)>=8 by omega)]
 have hl : ∀ (a:Int) (b:Bool) (m:List Int) (t1 t2 t3:Int),zv4 (some s) (p:Int) e (k:Int) x (mk (nW c) f) (.l31 a b m t1 t2 t3)=some (zua x (t1,t2,t3),a,b,0,⟨m⟩):=fun a b m t1 t2 t3=>by
  rw[zB3]
  simp only[zzC,i1,i2,i3,cnT,Tree.run]
  rfl
 unfold zeB zEF
 simp only[Tree.run,qS,cnF,zr2 g w hs hI.w.u,qY,qA,cnT,qP,hs.qr,qI,Bool.not_true,hwr,decide_eq_false (show ¬ e<0 by omega),decide_eq_false (show ¬ e>=1073741824 by omega),zo hk]
 rcases (show k=0 ∨ k=1 ∨ k=2 ∨ k=3 ∨ k=4 ∨ k=5 ∨ k=6 ∨ k=7 by omega)with rfl | rfl | rfl | rfl | rfl | rfl | rfl | rfl
 . have y1':zti (some s) (p:Int) e x (mk (nW c) f)=some (⟨0,0,0⟩,0,⟨some s,some ⟨mk (nW c) (over f (stA c p) 1 fun _=>1)⟩,(p:Int),e,x⟩):=by
    unfold zti zwr
    simp only[Tree.run0,Tree.run,qA,cnT,qP,hs.qh,zwz g w hI hs.ward hp,qY,ze6 (n:=0) (by omega)]
   simp only[show Nat.beq ((0:Nat):Int).toNat 0=true from rfl,cnT,cnF,y1',qY,qI,Bool.not_true,qP,hl,show(((0:Nat):Int)==5)=false from rfl,i1]
   rfl
 . have y1':=zEv g w hs hI hp e hx
   simp only[show Nat.beq ((1:Nat):Int).toNat 0=false from rfl,show Nat.beq ((1:Nat):Int).toNat 1=true from rfl,cnT,cnF,y1',qY,qI,Bool.not_true,qP,hl,show(((1:Nat):Int)==5)=false from rfl,i1]
   rfl
 . have y1':=zEu g w hs hI hp e hx
   simp only[show Nat.beq ((2:Nat):Int).toNat 0=false from rfl,show Nat.beq ((2:Nat):Int).toNat 1=false from rfl,show Nat.beq ((2:Nat):Int).toNat 2=true from rfl,cnT,cnF,y1',qY,qI,Bool.not_true,qP,hl,show(((2:Nat):Int)==5)=false from rfl,i1]
   rfl
 . have y1':ztl (some s) (p:Int) e x (mk (nW c) f)=some (⟨(zhA c p x.qz.e1 f).1,(zhA c p x.qz.e1 f).2.1,(zhA c p x.qz.e1 f).2.2⟩,0,⟨some s,some ⟨mk (nW c) f⟩,(p:Int),e,x⟩):=by
    obtain ⟨t1,t2⟩:=zwt g w hs hI hp x.qz.e1
    unfold ztl
    simp only[Tree.run0,Tree.run,qA,cnT,qP,i1,hs.qg,e1,zCn g w hs.duc hI.w x.qz.e1,qY,zbR t1 (show(zhA c p x.qz.e1 f).1<4294967296 by omega)]
   simp only[show Nat.beq ((3:Nat):Int).toNat 0=false from rfl,show Nat.beq ((3:Nat):Int).toNat 1=false from rfl,show Nat.beq ((3:Nat):Int).toNat 2=false from rfl,show Nat.beq ((3:Nat):Int).toNat 3=true from rfl,cnT,cnF,y1',qY,qI,Bool.not_true,qP,hl,show(((3:Nat):Int)==5)=false from rfl,i1]
   rfl
 . have y1':ztm (some s) (p:Int) e x (mk (nW c) f)=some (⟨(inF d.qi p e x.qz.e1).1,(inF d.qi p e x.qz.e1).2,0⟩,0,⟨some s,some ⟨mk (nW c) f⟩,(p:Int),e,x⟩):=by
    obtain ⟨t1,t2⟩:=zAM g w hs hI hp d.qi p e x.qz.e1
    unfold ztm
    simp only[Tree.run0,Tree.run,qA,cnT,qP,i1,hs.qf,in_v g w hs.dev p e hx.e1,qY,zbR t1 (show(inF d.qi p e x.qz.e1).1<4294967296 by omega)]
   simp only[show Nat.beq ((4:Nat):Int).toNat 0=false from rfl,show Nat.beq ((4:Nat):Int).toNat 1=false from rfl,show Nat.beq ((4:Nat):Int).toNat 2=false from rfl,show Nat.beq ((4:Nat):Int).toNat 3=false from rfl,show Nat.beq ((4:Nat):Int).toNat 4=true from rfl,cnT,cnF,y1',qY,qI,Bool.not_true,qP,hl,show(((4:Nat):Int)==5)=false from rfl,i1]
   rfl
 . have y1':ztn (some s) (p:Int) e x (mk (nW c) f)=some (⟨(zeT c p f).1,0,0⟩,0,⟨some s,some ⟨mk (nW c) (zeT c p f).2⟩,(p:Int),e,x⟩):=by
    obtain ⟨t1,t2⟩:=zDY g w hs hI hp
    unfold ztn
    simp only[Tree.run0,Tree.run,qA,cnT,qP,hs.qf,zOV g w hI hs.dev hp,qY,ze6 (n:=(zeT c p f).1) (by omega)]
   simp only[show Nat.beq ((5:Nat):Int).toNat 0=false from rfl,show Nat.beq ((5:Nat):Int).toNat 1=false from rfl,show Nat.beq ((5:Nat):Int).toNat 2=false from rfl,show Nat.beq ((5:Nat):Int).toNat 3=false from rfl,show Nat.beq ((5:Nat):Int).toNat 4=false from rfl,show Nat.beq ((5:Nat):Int).toNat 5=true from rfl,cnT,cnF,y1',qY,qI,Bool.not_true,qP,hl,show(((5:Nat):Int)==5)=true from rfl,i1]
   by_cases h0:(zeT c p f).1=0
   . have hc:(cDo c d.qi p e 5 x f).1=(0,0,0):=by
      show((zeT c p f).1,0,0)=_
      rw[h0]
     rw[h0,hc];rfl
   . have hb:((zeT c p f).1==0)=false:=by simpa using h0
     have hc:((cDo c d.qi p e 5 x f).1.1==0)=false:=hb
     rw[hb,hc];rfl
 . have y1':zfl (some s) (p:Int) e x (mk (nW c) f)=(⟨0,(p:Int),e⟩,0,⟨some s,some ⟨mk (nW c) f⟩,(p:Int),e,x⟩):=by
    unfold zfl
    rw[zbR (n:=(p:Int)) (by omega) (by omega),zbR he.1 (by omega)]
   simp only[show Nat.beq ((6:Nat):Int).toNat 0=false from rfl,show Nat.beq ((6:Nat):Int).toNat 1=false from rfl,show Nat.beq ((6:Nat):Int).toNat 2=false from rfl,show Nat.beq ((6:Nat):Int).toNat 3=false from rfl,show Nat.beq ((6:Nat):Int).toNat 4=false from rfl,show Nat.beq ((6:Nat):Int).toNat 5=false from rfl,show Nat.beq ((6:Nat):Int).toNat 6=true from rfl,cnT,cnF,y1',qY,qI,Bool.not_true,qP,hl,show(((6:Nat):Int)==5)=false from rfl,i1]
   rfl
 . have y1':zto (some s) (p:Int) e x (mk (nW c) f)=some (⟨0,0,0⟩,0,⟨some s,some ⟨mk (nW c) (over f (stA c p) 1 fun _=>3)⟩,(p:Int),e,x⟩):=by
    unfold zto zqZ
    simp only[Tree.run0,Tree.run,qA,cnT,qP,hs.qh,zwz g w hI hs.ward hp,qY,ze6 (n:=0) (by omega)]
   simp only[show Nat.beq ((7:Nat):Int).toNat 0=false from rfl,show Nat.beq ((7:Nat):Int).toNat 1=false from rfl,show Nat.beq ((7:Nat):Int).toNat 2=false from rfl,show Nat.beq ((7:Nat):Int).toNat 3=false from rfl,show Nat.beq ((7:Nat):Int).toNat 4=false from rfl,show Nat.beq ((7:Nat):Int).toNat 5=false from rfl,show Nat.beq ((7:Nat):Int).toNat 6=false from rfl,show Nat.beq ((7:Nat):Int).toNat 7=true from rfl,cnT,cnF,y1',qY,qI,Bool.not_true,qP,hl,show(((7:Nat):Int)==5)=false from rfl,i1]
   rfl
end
end Go.Proofs.YtgajeebphoiphaaGreatDoor
end
