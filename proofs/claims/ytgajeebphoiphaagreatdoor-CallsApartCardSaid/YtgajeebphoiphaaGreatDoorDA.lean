import Derived.Test.YtgajeebphoiphaaGreatDoorC12
import Derived.Test.YtgajeebphoiphaaGreatDoorD
set_option linter.unusedVariables false
set_option linter.unusedSimpArgs false
set_option linter.unusedSectionVars false
noncomputable section
open Go.IntKind (i64 u32)
namespace Go.Proofs.YtgajeebphoiphaaGreatDoor
open Go.RowKit
theorem zj(i:Nat)(h:i<4611686018427387904):i64.wrap ((i:Int)+1)=((i+1:Nat):Int):=by rw[zam _ (by omega) (by omega)];omega
theorem zY{i n:Nat}(h:i<n):decide ((i:Int)<(n:Int))=true:=decide_eq_true (by omega)
theorem z8{i n:Nat}(h:n<=i):decide ((i:Int)<(n:Int))=false:=decide_eq_false (by omega)
theorem zK{σ R:Type}{n:Nat}{f:Nat->σ->Option R}{S:Nat->σ}(hs : ∀ i,i<n->f i (S i)=f (i+1) (S (i+1))):f 0 (S 0)=f n (S n):=by
 have : ∀ k,k<=n->f 0 (S 0)=f k (S k):=by
  intro k
  induction k with
  | zero=>intro _;rfl
  | succ k ih=>intro h;rw[ih (by omega),hs k (by omega)]
 exact this n (qD)
theorem zao{R:Type}{n:Nat}{f:Nat->Option R}{q:Nat->Bool}{r e:Option R}(hs : ∀ i,i<n->f i=cond (q i) r (f (i+1)))(he:f n=e):f 0=cond ((List.range n).any q) r e:=by
 have : ∀ k i,i+k=n->f i=cond ((List.range' i k).any q) r e:=by
  intro k
  induction k with
  | zero=>intro i h;simp at h;subst h;simpa using he
  | succ k ih=>
   intro i h
   rw[hs i (by omega),ih (i+1) (by omega),List.range'_succ,List.any_cons]
   cases q i <;> rfl
 have h:=this n 0 (by omega)
 rwa [← List.range_eq_range']at h
theorem any_t{n:Nat}{q:Nat->Bool}:(List.range n).any q=true ↔ ∃ i,i<n/\q i=true:=by simp
theorem any_f{n:Nat}{q:Nat->Bool}:(List.range n).any q=false ↔ ∀ i,i<n->q i=false:=by simp
theorem zhN{n:Nat}{q q':Nat->Bool}(h : ∀ i,i<n->q i=q' i):(List.range n).any q=(List.range n).any q':=by
 rw[Bool.eq_iff_iff,any_t,any_t]
 exact⟨fun⟨i,hi,hq⟩=>⟨i,hi,by rw[← h i hi];exact hq⟩,fun⟨i,hi,hq⟩=>⟨i,hi,by rw[h i hi];exact hq⟩⟩
def B47:Nat:=140737488351232
def I64(n:Int):Prop := -9223372036854775808<=n/\n<9223372036854775808
structure zcr(c:za):Prop where
 qr:I64 c.qr
 kernel:I64 c.kernel
 room:I64 c.room
 qp:c.qp.length*24<=B47
 core : ∀ i,i<c.qp.length->(zD c.qp i).length*24<=B47
 parts:c.qq.length*104<=B47
 qe : ∀ i,i<c.qq.length->(zb c.qq i).qe.length*32<=B47
 qt : ∀ i,i<c.qq.length->(zb c.qq i).qt.length*16<=B47
 name : ∀ i,i<c.qq.length->(zb c.qq i).name.size<=maxLen
 chans:c.qw.length*24<=B47
 region : ∀ i k,i<c.qq.length->k<(zb c.qq i).qe.length->I64 (zi (zb c.qq i).qe k).frame/\I64 (zi (zb c.qq i).qe k).qc
theorem zeM{n:Int}(h:Fit (.v (.int .i64 n))):I64 n:=by
 cases h with
 | int _ _ h0 h1=>
  simp[IntKind.min,IntKind.max,IntKind.signed,IntKind.bits]at h0 h1
  exact⟨by omega,by omega⟩
theorem zca{t:Ty}{xs:List t.T}(h:Fit (.sl t xs)):xs.length*t.by<=B47/\∀ i j,i<xs.length->j<t.sz->Fit ((t.enc (nth xs i)).getD j .undef):=by
 cases h with
 | sl _ _ hl h=>exact⟨hl,h⟩
theorem zDx{s:ByteArray}(h:Fit (.v (.string s))):s.size<=maxLen:=by
 cases h with
 | str _ h=>exact h
theorem fitC{c:za}(h : ∀ j,j<Ty.sz .sConfig->Fit ((Ty.enc .sConfig c).getD j .undef)):zcr c:=by
 obtain ⟨k1,k2⟩:=zca (t:=.sl .sWindow) (xs:=c.qp) (h 4 (by decide))
 obtain ⟨k3,k4⟩:=zca (t:=.sPartition) (xs:=c.qq) (h 5 (by decide))
 obtain ⟨k5,_⟩:=zca (t:=.sChannel) (xs:=c.qw) (h 6 (by decide))
 have part : ∀ i,i<c.qq.length->_:=fun i hi=>zca (t:=.sRegion) (xs:=(zb c.qq i).qe) (k4 i 6 hi (by decide))
 refine⟨zeM (h 0 (by decide)),zeM (h 2 (by decide)),zeM (h 3 (by decide)),k1,fun i hi=>(zca (t:=.sWindow) (xs:=zD c.qp i) (k2 i 0 hi (by decide))).1,k3,fun i hi=>(part i hi).1,fun i hi=>(zca (t:=.sPort) (xs:=(zb c.qq i).qt) (k4 i 7 hi (by decide))).1,fun i hi=>zDx (k4 i 0 hi (by decide)),k5,fun i k hi hk=>?_⟩
 exact⟨zeM ((part i hi).2 k 2 hk (by decide)),zeM ((part i hi).2 k 1 hk (by decide))⟩
theorem zj2(n l m:Int):zaQ n l m=(decide (l<=n)&&decide (n<=m)):=by
 unfold zaQ
 by_cases h:l<=n <;> simp[h,Tree.val]
theorem zfJ(n l m:Int):za1 n l m=(decide (l<=n)&&decide (n<=m)):=by
 unfold za1
 by_cases h:l<=n <;> simp[h,Tree.val]
theorem zaZ{a b:Nat}(h:a<=b):leB a b=true:=by simpa only [leB,Nat.ble_eq]using h
theorem zAW(n b:Nat)(h:n*b<=B47):(decide ((n:Int)=n)&&decide (0<=n)&&leB ((n:Int).toNat*b) 140737488355328)=true:=by
 unfold B47 at h
 rw[tnC,zaZ (by omega)]
 simp
def zzy(b:Int):Bool:=(decide (b<97) || decide (b>122))&&(decide (b<48) || decide (b>57))&&!(b==45)
def zso(s:ByteArray):Bool:=(List.range s.size).any fun i=>zzy (zcB s i)
theorem zrF{R:Type}(b:Int)(x y:R):cond (decide (b<97)) (cond (decide (b<48)) (cond (!(b==45)) x y) (cond (decide (b>57)) (cond (!(b==45)) x y) y)) (cond (decide (b>122)) (cond (decide (b<48)) (cond (!(b==45)) x y) (cond (decide (b>57)) (cond (!(b==45)) x y) y)) y)=cond (zzy b) x y:=by
 unfold zzy
 cases decide (b<97) <;> cases decide (b>122) <;> cases decide (b<48) <;> cases decide (b>57) <;> cases (b==45) <;> rfl
theorem zH1{s:ByteArray}(hs:s.size<4611686018427387904):zm3 s (.l0 0)=some (!(zso s)):=by
 have h:=zao (n:=s.size) (f:=fun i=>zm3 s (.l0 (i:Int))) (q:=fun i=>zzy (zcB s i)) (r:=some false) (e:=some true) (fun i hi=>by
  rw[zpj]
  simp only[zp9,zY hi,cnT,zo hi,tnC,zj i (by omega),id,Tree.run,qY]
  exact zrF _ _ _) (by rw[zpj];simp only[zp9,z8 (qD),cnF,id,Tree.run,qY])
 refine h.trans ?_
 unfold zso
 cases (List.range s.size).any _ <;> rfl
theorem zH0{s:ByteArray}(hs:s.size<4611686018427387904):zm4 s (.l0 0)=some (!(zso s)):=by
 have h:=zao (n:=s.size) (f:=fun i=>zm4 s (.l0 (i:Int))) (q:=fun i=>zzy (zcB s i)) (r:=some false) (e:=some true) (fun i hi=>by
  rw[zpk]
  simp only[zqa,zY hi,cnT,zo hi,tnC,zj i (by omega),id,Tree.run,qY]
  exact zrF _ _ _) (by rw[zpk];simp only[zqa,z8 (qD),cnF,id,Tree.run,qY])
 refine h.trans ?_
 unfold zso
 cases (List.range s.size).any _ <;> rfl
noncomputable def zum(s:ByteArray):Bool:=cond (decide (s.size=0)) false (cond (decide (s.size>16)) false (cond (decide (zcB s 0<97)) false (cond (decide (zcB s 0>122)) false (!(zso s)))))
theorem zDE(s:ByteArray):zrd s=some (zum s):=by
 unfold zrd zAd zum
 dsimp only [Tree.run0,Tree.run]
 have e1:(s.toList==(ByteArray.mk #[]).toList)=decide (s.size=0):=by
  rw[Bool.eq_iff_iff,beq_iff_eq,qG,ByteArray.toList_eq,ByteArray.toList_eq]
  constructor
  . intro h
    have h2:s.data.toList.length=0:=congrArg List.length h
    rw[Array.length_toList]at h2
    exact h2
  . intro h
    have h2:s.data.toList.length=0:=by rw[Array.length_toList];exact h
    exact List.eq_nil_of_length_eq_zero h2
 rw[e1]
 cases h0:decide (s.size=0)with
 | true=>rfl
 | false=>
  simp only[cnF]
  have h0' : ¬ s.size=0:=by simpa using h0
  have e2:decide ((s.size:Int)>16)=decide (s.size>16):=by rw[Bool.eq_iff_iff,qG,qG];omega
  rw[e2]
  cases h1:decide (s.size>16)with
  | true=>rfl
  | false=>
   have h1' : ¬ s.size>16:=by simpa using h1
   have e3:zO 0 s.size=true:=zo (i:=0) (by omega)
   simp only[cnF,e3,cnT,id]
   rw[zH1 (by omega)]
   cases decide (zcB s 0<97) <;> cases decide (zcB s 0>122) <;> rfl
theorem zDD(s:ByteArray):zre s=some (zum s):=by
 unfold zre zAf zum
 dsimp only [Tree.run0,Tree.run]
 have e1:decide ((s.size:Int)<1)=decide (s.size=0):=by rw[Bool.eq_iff_iff,qG,qG];omega
 rw[e1]
 cases h0:decide (s.size=0)with
 | true=>rfl
 | false=>
  simp only[cnF]
  have h0' : ¬ s.size=0:=by simpa using h0
  have e2:decide ((s.size:Int)>16)=decide (s.size>16):=by rw[Bool.eq_iff_iff,qG,qG];omega
  rw[e2]
  cases h1:decide (s.size>16)with
  | true=>rfl
  | false=>
   have h1' : ¬ s.size>16:=by simpa using h1
   have e3:zO 0 s.size=true:=zo (i:=0) (by omega)
   simp only[cnF,e3,cnT,id]
   rw[zH0 (by omega)]
   cases decide (zcB s 0<97) <;> cases decide (zcB s 0>122) <;> rfl
def zcW(x:zx):Bool:=((x.e:Int)==fine.e)&&((((x.where_.first:Int)==fine.where_.first)&&(((x.where_.second:Int)==fine.where_.second)&&true))&&true)
theorem zoC(x:zx):zcW x=true ↔ x=fine:=by
 obtain ⟨e,f,s⟩:=x
 simp[zcW,fine]
theorem zep:zcW fine=true:=(zoC _).2 rfl
theorem zlB{x:zx}(h:x.e ≠ 0):zcW x=false:=by
 cases hq:zcW x with
 | false=>rfl
 | true=>rw[(zoC x).1 hq]at h;exact absurd rfl h
def AnsF(o:Option zx)(b:Bool):Prop:=∃ r,o=some r/\(b=true->r=fine)/\(b=false->r.e ≠ 0)
def zCO(o:Option Int)(b:Bool):Prop:=∃ e,o=some e/\(e==0)=b
theorem AnsF.fine{b:Bool}(h:b=true):AnsF (some fine) b:=⟨_,rfl,fun _=>rfl,fun h'=>by rw[h]at h';cases h'⟩
theorem AnsF.err{r:zx}{b:Bool}(h:b=false)(hr:r.e ≠ 0):AnsF (some r) b:=⟨_,rfl,fun h'=>by(rw[h]at h';cases h'),fun _=>hr⟩
theorem AnsF.err'{e:Int}{w:za0}{b:Bool}(h:b=false)(hr:e ≠ 0):AnsF (some ⟨e,w⟩) b:=.err h hr
theorem znQ(e:Int)(w:za0):zag true e w=fine:=rfl
theorem zjA(e:Int)(w:za0):zag false e w=⟨e,⟨w.first,w.second⟩⟩:=rfl
theorem zbG{b:Bool}{e:Int}{w:za0}(he:e ≠ 0):zcW (zag b e w)=b:=by
 cases b
 . rw[zjA];exact zlB he
 . rw[znQ];exact zep
theorem zDg{xs:List zx}{i:Nat}(h:i<xs.length):zdY xs i=xs[i]:=by simp[zdY,List.getD,h]
theorem zAC{l:List zx}(hl:l.length<4611686018427387904) : ∃ r,zbz l=some r/\((∀ x ∈ l,zcW x=true)->r=fine)/\∀ x ∈ l,zcW x=false->zcW r=false/\r ∈ l:=by
 have key : ∀ k i,i+k=l.length->∃ r,zqT l (.l0 (i:Int))=some r/\((∀ x ∈ l.drop i,zcW x=true)->r=fine)/\∀ x ∈ l.drop i,zcW x=false->zcW r=false/\r ∈ l:=by
  intro k
  induction k with
  | zero=>
   intro i h
   refine⟨fine,?_,fun _=>rfl,fun x hx=>?_⟩
   . rw[zpg]
     simp only[zp6,z8 (show l.length<=i by omega),cnF,id,Tree.run,qY]
   . rw[List.drop_eq_nil_of_le (by omega)]at hx;cases hx
  | succ k ih=>
   intro i h
   have hi:i<l.length:=by omega
   have hd:l.drop i=l[i] :: l.drop (i+1):=List.drop_eq_getElem_cons hi
   rw[zpg]
   simp only[zp6,zY hi,cnT,zo hi,tnC,zj i (by omega),id,Tree.run,qY]
   obtain ⟨r,h1,h2,h3⟩:=ih (i+1) (by omega)
   show ∃ r,cond (!(zcW (zdY l i))) _ _=some r/\_
   rw[zDg hi]
   cases hq:zcW l[i]with
   | true=>
    refine⟨r,h1,fun h=>h2 fun x hx=>h x (by rw[hd];exact List.mem_cons_of_mem _ hx),fun x hx hf=>?_⟩
    rw[hd]at hx
    rcases List.mem_cons.1 hx with rfl | hx
    . rw[hq]at hf;cases hf
    . exact h3 x hx hf
   | false=>
    refine⟨l[i],rfl,fun h=>?_,fun x hx hf=>⟨hq,List.getElem_mem hi⟩⟩
    have:=h l[i] (by rw[hd];exact List.mem_cons_self)
    rw[hq]at this;cases this
 obtain ⟨r,h1,h2,h3⟩:=key l.length 0 (by omega)
 exact⟨r,h1,by simpa using h2,by simpa using h3⟩
theorem zj0(bs:List (Bool × Int × za0))(hl:bs.length<4611686018427387904)(he : ∀ x ∈ bs,x.2.1 ≠ 0):AnsF (zbz (bs.map fun x=>zag x.1 x.2.1 x.2.2)) (bs.all (·.1)):=by
 obtain ⟨r,h1,h2,h3⟩:=zAC (l:=bs.map fun x=>zag x.1 x.2.1 x.2.2) (by simpa using hl)
 refine⟨r,h1,fun h=>h2 fun x hx=>?_,fun h=>?_⟩
 . obtain ⟨y,hy,rfl⟩:=List.mem_map.1 hx
   rw[zbG (he y hy)]
   exact List.all_eq_true.1 h y hy
 . obtain ⟨y,hy,hb⟩ : ∃ y ∈ bs,y.1=false:=by
    apply Classical.byContradiction
    intro hn
    have:bs.all (·.1)=true:=List.all_eq_true.2 fun y hy=>by
     cases hq:y.1 with
     | true=>rfl
     | false=>exact absurd ⟨y,hy,hq⟩ hn
    rw[this]at h;cases h
   obtain ⟨h4,h5⟩:=h3 _ (List.mem_map.2 ⟨y,hy,rfl⟩) (by rw[zbG (he y hy)];exact hb)
   obtain ⟨z,hz,rfl⟩:=List.mem_map.1 h5
   rw[zbG (he z hz)]at h4
   rw[h4,zjA]
   exact he z hz
theorem zHA(b1 b2:Bool)(e1 e2:Int)(w1 w2:za0)(h1:e1 ≠ 0)(h2:e2 ≠ 0):AnsF (zbz [zag b1 e1 w1,zag b2 e2 w2]) (b1&&b2):=by
 have:=zj0 [(b1,e1,w1),(b2,e2,w2)] (by simp) (by simp[h1,h2])
 simpa using this
theorem zAB(b1 b2 b3:Bool)(e1 e2 e3:Int)(w1 w2 w3:za0)(h1:e1 ≠ 0)(h2:e2 ≠ 0)(h3:e3 ≠ 0):AnsF (zbz [zag b1 e1 w1,zag b2 e2 w2,zag b3 e3 w3]) (b1&&(b2&&b3)):=by
 have:=zj0 [(b1,e1,w1),(b2,e2,w2),(b3,e3,w3)] (by simp) (by simp[h1,h2,h3])
 simpa using this
theorem zHB(b1 b2 b3 b4:Bool)(e1 e2 e3 e4:Int)(w1 w2 w3 w4:za0)(h1:e1 ≠ 0)(h2:e2 ≠ 0)(h3:e3 ≠ 0)(h4:e4 ≠ 0):AnsF (zbz [zag b1 e1 w1,zag b2 e2 w2,zag b3 e3 w3,zag b4 e4 w4]) (b1&&(b2&&(b3&&b4))):=by
 have:=zj0 [(b1,e1,w1),(b2,e2,w2),(b3,e3,w3),(b4,e4,w4)] (by simp) (by simp[h1,h2,h3,h4])
 simpa using this
noncomputable def P(c:za)(p:Nat):zf:=zb c.qq p
noncomputable def Rg(c:za)(p k:Nat):Region:=zi (P c p).qe k
noncomputable def zgB(c:za)(p q:Nat):Bool:=((P c q).name.toList==(P c p).name.toList)
noncomputable def zdk(c:za)(p:Nat):Bool:=!((List.range p).any (zgB c p))&&zum (P c p).name
theorem zmh{i n:Nat}(h:i<=n):inS 0 (i:Int) n=true:=inS_iff.2 ⟨by omega,by omega,by omega⟩
theorem zwy{c:za}{p q:Nat}(hq:q<p)(hp:p<=c.qq.length):zb ((c.qq.take p).drop 0) q=P c q:=by
 simp[zb,P,List.getD,List.getElem?_take,hq]
theorem zDV{c:za}(hc:zcr c){p:Nat}(hp:p<c.qq.length):zq7 c p=some (zdk c p):=by
 have hlen:=hc.parts
 unfold B47 at hlen
 have h:=zao (n:=p) (f:=fun i=>zqS c p (.l0 (i:Int))) (q:=zgB c p) (r:=some false) (e:=some (zum (P c p).name)) (fun i hi=>by
  rw[zpd]
  simp only[zp3,zY hi,cnT,zo hp,zo (show i<c.qq.length by omega),tnC,zj i (by omega),id,Tree.run,qY]
  rfl) (by
  rw[zpd]
  simp only[zp3,z8 (qD),cnF,zo hp,cnT,tnC,id,zDE,Tree.run,qY];rfl)
 refine h.trans ?_
 unfold zdk
 cases (List.range p).any (zgB c p) <;> simp
theorem zDU{c:za}(hc:zcr c){p:Nat}(hp:p<c.qq.length):znm c p=some (zdk c p):=by
 have hlen:=hc.parts
 unfold B47 at hlen
 have htl:((c.qq.take p).drop 0).length=p:=by simp;omega
 have h:=zao (n:=p) (f:=fun i=>zqU c p (.l0 (i:Int))) (q:=zgB c p) (r:=some false) (e:=some (zum (P c p).name)) (fun i hi=>by
  rw[zph]
  simp only[zp7,tnC,htl,zY hi,cnT,zo hp,zo hi,zj i (by omega),id,zwy hi (Nat.le_of_lt hp),Tree.run,qY]
  rfl) (by
  rw[zph]
  simp only[zp7,tnC,htl,z8 (qD),cnF,zo hp,cnT,id,zDD,Tree.run,qY];rfl)
 unfold znm zAa
 dsimp only [Tree.run0,Tree.run]
 rw[zmh (Nat.le_of_lt hp),cnT]
 refine h.trans ?_
 unfold zdk
 cases (List.range p).any (zgB c p) <;> simp
noncomputable def zgn(a m b o:Int):Bool:=zpa a m b o
noncomputable def zgy(c:za)(g:Region):Bool:=(decide (0<=g.page)&&decide (g.page<=255))&&(decide (1<=g.qc)&&decide (g.qc<=i64.wrap (256-g.page)))&&decide (0<=g.frame)&&decide (g.qc<=i64.wrap (c.qr-g.frame))&&(decide (1<=g.qv)&&decide (g.qv<=7))
noncomputable def zsv(c:za)(p k i:Nat):Bool:=zgn (Rg c p k).page (Rg c p k).qc (Rg c p i).page (Rg c p i).qc
noncomputable def zcX(c:za)(p k q i:Nat):Bool:=(decide (q<p) || decide (i<k))&&zgn (Rg c p k).frame (Rg c p k).qc (Rg c q i).frame (Rg c q i).qc
noncomputable def zaI(c:za)(p:Nat):Nat:=(P c p).qe.length
noncomputable def zhx(c:za)(p k:Nat):Bool:=zgy c (Rg c p k)&&!((List.range k).any (zsv c p k))&&!((List.range (p+1)).any fun q=>(List.range (zaI c q)).any (zcX c p k q))
theorem zD9(c:za)(g:Region):zsH c g=zgy c g:=by
 unfold zsH zgy
 dsimp only [Tree.val]
 rw[zj2,zj2,zj2]
 cases decide (0<=g.page) <;> cases decide (g.page<=255) <;> cases decide (1<=g.qc) <;> cases decide (g.qc<=i64.wrap (256-g.page)) <;> cases decide (0<=g.frame) <;> cases decide (g.qc<=i64.wrap (c.qr-g.frame)) <;> simp
theorem zBP{c:za}(hc:zcr c){p k:Nat}(hp:p<c.qq.length)(hk:k<zaI c p):zCO (zq8 c p k) (zhx c p k):=by
 have hlen:=hc.parts
 unfold B47 at hlen
 have hrl : ∀ q,q<c.qq.length->zaI c q*32<=B47:=fun q hq=>hc.qe q hq
 have hB:B47=140737488351232:=rfl
 have hk':k<(zb c.qq p).qe.length:=hk
 -- the qr of one qk
 have h8 : ∀ q,q<=p->zcF c p k (.l8 (q:Int) 0)=cond ((List.range (zaI c q)).any (zcX c p k q)) (some 411) (zcF c p k (.l4 ((q+1:Nat):Int))):=fun q hq=>by
  have hqc:q<c.qq.length:=by omega
  have hql:=hrl q hqc
  by_cases hqp:q=p
  . subst hqp
    have h:=zao (n:=k) (f:=fun i=>zcF c q k (.l8 (q:Int) (i:Int))) (q:=fun i=>zgn (Rg c q k).frame (Rg c q k).qc (Rg c q i).frame (Rg c q i).qc) (r:=some 411) (e:=zcF c q k (.l4 ((q+1:Nat):Int))) (fun i hi=>by
     rw[zcM]
     have hi':i<(zb c.qq q).qe.length:=by omega
     have e1:decide ((i:Int)>=(k:Int))=false:=decide_eq_false (by omega)
     simp only[zeR,tnC,zo hqc,cnT,zY hi',zo hi',qI,e1,cnF,zj i (by omega),id,Tree.run,qY]
     rfl) (by
     rw[zcM]
     have e1:decide ((k:Int)>=(k:Int))=true:=decide_eq_true (by omega)
     simp only[zeR,tnC,zo hqc,cnT,zY hk',qI,e1,zj q (by omega),id,Tree.run,qY])
    refine h.trans ?_
    congr 1
    rw[Bool.eq_iff_iff,any_t,any_t]
    constructor
    . rintro ⟨i,hi,hq⟩
      exact⟨i,Nat.lt_trans hi hk,by simp only[zcX,qH,Bool.or_eq_true,qG];exact⟨.inr hi,hq⟩⟩
    . rintro ⟨i,hi,hq⟩
      simp only[zcX,qH,Bool.or_eq_true,qG]at hq
      exact⟨i,by omega,hq.2⟩
  . have h:=zao (n:=zaI c q) (f:=fun i=>zcF c p k (.l8 (q:Int) (i:Int))) (q:=zcX c p k q) (r:=some 411) (e:=zcF c p k (.l4 ((q+1:Nat):Int))) (fun i hi=>by
     rw[zcM]
     have hi':i<(zb c.qq q).qe.length:=hi
     have e1:((q:Int)==(p:Int))=false:=by simp;omega
     simp only[zeR,tnC,zo hqc,cnT,zY hi',zo hi',e1,cnF,zj i (by omega),id,Tree.run,qY]
     unfold zcX
     rw[show decide (q<p)=true from decide_eq_true (by omega),Bool.true_or,Bool.true_and]
     rfl) (by
     rw[zcM]
     have hi':decide ((zaI c q:Int)<((zb c.qq q).qe.length:Int))=false:=z8 (qD)
     simp only[zeR,tnC,zo hqc,cnT,hi',cnF,zj q (by omega),id,Tree.run,qY])
    exact h
 have h4:=zao (n:=p+1) (f:=fun q=>zcF c p k (.l4 (q:Int))) (q:=fun q=>(List.range (zaI c q)).any (zcX c p k q)) (r:=some 411) (e:=some 0) (fun q hq=>by
  rw[zcM]
  have e1:decide ((q:Int)<=(p:Int))=true:=decide_eq_true (by omega)
  simp only[zeR,e1,cnT,id,Tree.run,qY]
  exact h8 q (by omega)) (by
  rw[zcM]
  have e1:decide (((p+1:Nat):Int)<=(p:Int))=false:=decide_eq_false (by omega)
  simp only[zeR,e1,cnF,id,Tree.run,qY])
 have hkl:=hrl p hp
 have h0:=zao (n:=k) (f:=fun i=>zcF c p k (.l0 (i:Int))) (q:=zsv c p k) (r:=some 410) (e:=zcF c p k (.l4 0)) (fun i hi=>by
  rw[zcM]
  have hi':i<(zb c.qq p).qe.length:=by omega
  simp only[zeR,tnC,zY hi,zo hp,cnT,zo hi',zj i (by omega),id,Tree.run,qY]
  rfl) (by
  rw[zcM]
  simp only[zeR,z8 (qD),cnF,id,Tree.run,qY])
 unfold zq8 zz6
 dsimp only [Tree.run0,Tree.run]
 simp only[tnC,zo hp,zo hk',cnT,id]
 show zCO (cond (!(zsH c (Rg c p k))) (some 409) (zcF c p k (.l0 0))) _
 rw[zD9]
 unfold zhx
 cases zgy c (Rg c p k)with
 | false=>exact⟨409,rfl,rfl⟩
 | true=>
  simp only[Bool.not_true,cnF,Bool.true_and]
  refine(show zCO _ _ from ?_)
  rw[show zcF c p k (.l0 0)=_ from h0,show zcF c p k (.l4 0)=_ from h4]
  cases (List.range k).any (zsv c p k)with
  | true=>exact⟨410,rfl,rfl⟩
  | false=>
   simp only[cnF,Bool.not_false,Bool.true_and]
   cases (List.range (p+1)).any fun q=>(List.range (zaI c q)).any (zcX c p k q)with
   | true=>exact⟨411,rfl,rfl⟩
   | false=>exact⟨0,rfl,rfl⟩
theorem zDP(n:Int):decide (n<0)=!(decide (0<=n)):=by
 by_cases h:0<=n
 . rw[decide_eq_false (by omega),decide_eq_true h];rfl
 . rw[decide_eq_true (by omega),decide_eq_false h];rfl
theorem zul(a b:Int):decide (a>b)=!(decide (a<=b)):=by
 by_cases h:a<=b
 . rw[decide_eq_false (by omega),decide_eq_true h];rfl
 . rw[decide_eq_true (by omega),decide_eq_false h];rfl
theorem zJP{c:za}{p k i:Nat}(hi:i<k):zi ((((P c p).qe).take k).drop 0) i=Rg c p i:=by
 simp[zi,Rg,List.getD,List.getElem?_take,hi]
theorem zD8{c:za}{p k:Nat}(hk:k<=zaI c p):((((P c p).qe).take k).drop 0).length=k:=by
 unfold zaI at hk
 simp;omega
theorem zBO{c:za}(hc:zcr c){p k:Nat}(hp:p<c.qq.length)(hk:k<zaI c p):AnsF (zrb c p k) (zhx c p k):=by
 have hlen:=hc.parts
 unfold B47 at hlen
 have hrl : ∀ q,q<c.qq.length->zaI c q*32<=B47:=fun q hq=>hc.qe q hq
 have hB:B47=140737488351232:=rfl
 have hk':k<(zb c.qq p).qe.length:=hk
 have hw:i64.wrap ((p:Int)+1)=((p+1:Nat):Int):=zj p (by omega)
 have hpl:((c.qq.take (p+1)).drop 0).length=p+1:=by simp;omega
 let e3:zx:=⟨411,⟨p,k⟩⟩
 have h8 : ∀ q,q<=p->zdl c p k (.l8 (q:Int) (q:Int) (P c q).qe ((P c q).qe.length) 0)=cond ((List.range (zaI c q)).any (zcX c p k q)) (some e3) (zdl c p k (.l4 ((q+1:Nat):Int))):=fun q hq=>by
  have hql:=hrl q (by omega)
  exact zao (n:=zaI c q) (f:=fun i=>zdl c p k (.l8 (q:Int) (q:Int) (P c q).qe ((P c q).qe.length) (i:Int))) (q:=zcX c p k q) (r:=some e3) (e:=zdl c p k (.l4 ((q+1:Nat):Int))) (fun i hi=>by
   rw[zef]
   have hi':i<(P c q).qe.length:=hi
   have e1:decide ((q:Int)<(p:Int))=decide (q<p):=by rw[Bool.eq_iff_iff,qG,qG];omega
   have e2:decide ((i:Int)<(k:Int))=decide (i<k):=by rw[Bool.eq_iff_iff,qG,qG];omega
   simp only[zga,tnC,cnT,zY hi',zo hi',e1,e2,zj i (by omega),id,Tree.run,qY]
   unfold zcX
   show cond (decide (q<p)) (cond (zgn (Rg c p k).frame (Rg c p k).qc (Rg c q i).frame (Rg c q i).qc) (some e3) _) (cond (decide (i<k)) (cond (zgn (Rg c p k).frame (Rg c p k).qc (Rg c q i).frame (Rg c q i).qc) (some e3) _) _)=_
   cases decide (q<p) <;> cases decide (i<k) <;> cases zgn (Rg c p k).frame (Rg c p k).qc (Rg c q i).frame (Rg c q i).qc <;> rfl) (by
   rw[zef]
   have hi':decide ((zaI c q:Int)<((P c q).qe.length:Int))=false:=z8 (qD)
   simp only[zga,hi',cnF,zj q (by omega),id,Tree.run,qY])
 have h4:=zao (n:=p+1) (f:=fun q=>zdl c p k (.l4 (q:Int))) (q:=fun q=>(List.range (zaI c q)).any (zcX c p k q)) (r:=some e3) (e:=some fine) (fun q hq=>by
  rw[zef]
  simp only[zga,hw,tnC,hpl,zY hq,zo hq,cnT,zwy hq (show p+1<=c.qq.length by omega),id,Tree.run,qY]
  exact h8 q (by omega)) (by
  rw[zef]
  simp only[zga,hw,tnC,hpl,z8 (qD),cnF,id,Tree.run,qY])
 have hkl:=hrl p hp
 let e2:zx:=⟨410,⟨p,k⟩⟩
 have hrlen:(((zb c.qq p).qe.take k).drop 0).length=k:=zD8 (c:=c) (p:=p) (Nat.le_of_lt hk)
 have h0:=zao (n:=k) (f:=fun i=>zdl c p k (.l0 (i:Int))) (q:=zsv c p k) (r:=some e2) (e:=zdl c p k (.l4 0)) (fun i hi=>by
  rw[zef]
  have ha:zi (((zb c.qq p).qe.take k).drop 0) i=Rg c p i:=zJP hi
  simp only[zga,tnC,hrlen,zY hi,zo hi,cnT,ha,zj i (by omega),id,Tree.run,qY]
  rfl) (by
  rw[zef]
  simp only[zga,tnC,hrlen,z8 (qD),cnF,hw,zmh (show p+1<=c.qq.length by omega),cnT,id,Tree.run,qY])
 unfold zrb zAb
 dsimp only [Tree.run0,Tree.run]
 simp only[tnC,zo hp,zo hk',cnT,zfJ,zDP,zul,zmh (Nat.le_of_lt hk'),id]
 unfold zhx zgy
 show AnsF (cond (!(decide (0<=(Rg c p k).page)&&decide ((Rg c p k).page<=255))) _ (cond (!(decide (1<=(Rg c p k).qc)&&decide ((Rg c p k).qc<=i64.wrap (256-(Rg c p k).page)))) _ (cond (!(decide (0<=(Rg c p k).frame))) _ (cond (!(decide ((Rg c p k).qc<=i64.wrap (c.qr-(Rg c p k).frame)))) _ (cond (!(decide (1<=(Rg c p k).qv)&&decide ((Rg c p k).qv<=7))) _ (zdl c p k (.l0 0))))))) _
 cases decide (0<=(Rg c p k).page)&&decide ((Rg c p k).page<=255)with
 | false=>exact .err' rfl (by decide)
 | true=>
 cases decide (1<=(Rg c p k).qc)&&decide ((Rg c p k).qc<=i64.wrap (256-(Rg c p k).page))with
 | false=>exact .err' rfl (by decide)
 | true=>
 cases decide (0<=(Rg c p k).frame)with
 | false=>exact .err' rfl (by decide)
 | true=>
 cases decide ((Rg c p k).qc<=i64.wrap (c.qr-(Rg c p k).frame))with
 | false=>exact .err' rfl (by decide)
 | true=>
 cases decide (1<=(Rg c p k).qv)&&decide ((Rg c p k).qv<=7)with
 | false=>exact .err' rfl (by decide)
 | true=>
  simp only[Bool.not_true,cnF,Bool.true_and,Bool.and_true]
  rw[show zdl c p k (.l0 0)=_ from h0,show zdl c p k (.l4 0)=_ from h4]
  cases (List.range k).any (zsv c p k)with
  | true=>exact .err' rfl (by decide)
  | false=>
   simp only[cnF,Bool.not_false,Bool.true_and]
   cases (List.range (p+1)).any fun q=>(List.range (zaI c q)).any (zcX c p k q)with
   | true=>exact .err' rfl (by decide)
   | false=>exact .fine rfl
noncomputable def zhW(x:zf)(i:Nat):Bool:=(decide ((zi x.qe i).page<=bop .quo .i64 x.entry 16)&&decide (bop .quo .i64 x.entry 16<=i64.wrap (i64.wrap ((zi x.qe i).page+(zi x.qe i).qc)-1)))&&!((bop .and .i64 (zi x.qe i).qv 4)==0)
noncomputable def zeV(x:zf):Bool:=(decide (0<=x.entry)&&decide (x.entry<=4095))&&(List.range x.qe.length).any (zhW x)
theorem zfb{R:Type}(a b:Bool)(x y:R):cond a (cond b x y) y=cond (a&&b) x y:=by cases a <;> cases b <;> rfl
theorem zDt{x:zf}(hx:x.qe.length*32<=B47):znk x=some (zeV x):=by
 unfold B47 at hx
 have h:=zao (n:=x.qe.length) (f:=fun i=>zm1 x (.l0 (i:Int))) (q:=zhW x) (r:=some true) (e:=some false) (fun i hi=>by
  rw[zpe]
  simp only[zp4,tnC,zY hi,zo hi,cnT,zj2,zj i (by omega),id,zfb,Tree.run,qY]
  rfl) (by
  rw[zpe]
  simp only[zp4,z8 (qD),cnF,id,Tree.run,qY])
 unfold znk zz7 zeV
 dsimp only [Tree.run0,Tree.run]
 rw[zj2]
 cases decide (0<=x.entry)&&decide (x.entry<=4095)with
 | false=>rfl
 | true=>
  refine Eq.trans (show _=zm1 x (.l0 0)from rfl) (Eq.trans h ?_)
  cases (List.range x.qe.length).any (zhW x) <;> rfl
theorem zJT{x:zf}(hx:x.qe.length*32<=B47):znn x=some ((List.range x.qe.length).any (zhW x)):=by
 unfold B47 at hx
 have h:=zao (n:=x.qe.length) (f:=fun i=>zm2 x (.l0 (i:Int))) (q:=zhW x) (r:=some true) (e:=some false) (fun i hi=>by
  rw[zpi]
  simp only[zp8,tnC,zY hi,zo hi,cnT,zfJ,zj i (by omega),id,zfb,Tree.run,qY]
  rfl) (by
  rw[zpi]
  simp only[zp8,z8 (qD),cnF,id,Tree.run,qY])
 refine Eq.trans (show _=zm2 x (.l0 0)from rfl) (Eq.trans h ?_)
 cases (List.range x.qe.length).any (zhW x) <;> rfl
noncomputable def zaa(c:za)(p:Nat):Nat:=(P c p).qt.length
noncomputable def Pt(c:za)(p k:Nat):zb9:=zbe (P c p).qt k
noncomputable def zf0(c:za)(p k:Nat):Bool:=!(decide (0<=(Pt c p k).ql)&&decide ((Pt c p k).ql<=i64.wrap ((c.qw.length:Int)-1)))
noncomputable def zmf(c:za)(p:Nat):Bool:=zdk c p&&(((decide (0<=(P c p).action)&&decide ((P c p).action<=2))&&(decide (0<=(P c p).qR)&&decide ((P c p).qR<=15)))&&(((decide (0<=(P c p).qE)&&decide ((P c p).qE<=16))&&(decide (0<=(P c p).qW)&&decide ((P c p).qW<=16)))&&(decide (1<=zaI c p)&&decide (zaI c p<=8))))
noncomputable def zev(c:za)(p:Nat):Bool:=zmf c p&&!((List.range (zaI c p)).any fun k=>!(zhx c p k))&&zeV (P c p)&&decide (zaa c p<=8)&&!((List.range (zaa c p)).any (zf0 c p))
def zc6(o:Option (Int × za0))(b:Bool):Prop:=∃ r,o=some r/\(r.1==0)=b
theorem zpX{r:zx}{b:Bool}(h1:b=true->r=fine)(h2:b=false->r.e ≠ 0):zcW r=b:=by
 cases b with
 | true=>rw[h1 rfl];exact zep
 | false=>exact zlB (h2 rfl)
theorem zsx{c:za}(hc:zcr c){p:Nat}(hp:p<c.qq.length):zc6 (zwm c p) (zev c p):=by
 have hrl:zaI c p*32<=B47:=hc.qe p hp
 have hql:zaa c p*16<=B47:=hc.qt p hp
 have hB:B47=140737488351232:=rfl
 have n1':zq7 c p=some (zdk c p):=zDV hc hp
 -- qt
 have l6 : ∀ m i,i+m=zaa c p->zc6 (zpr c p (.l6 (i:Int))) (!((List.range' i m).any (zf0 c p))):=by
  intro m
  induction m with
  | zero=>
   intro i h
   rw[zjm]
   have hi':decide ((i:Int)<((zb c.qq p).qt.length:Int))=false:=z8 (by unfold zaa P at h;omega)
   simp only[zom,tnC,hi',cnF,id,Tree.run,qY]
   exact⟨_,rfl,rfl⟩
  | succ m ih=>
   intro i h
   rw[zjm]
   have hi:i<(zb c.qq p).qt.length:=by unfold zaa P at h;omega
   simp only[zom,tnC,zY hi,zo hi,cnT,zj2,zj i (by omega),id,Tree.run,qY]
   rw[List.range'_succ,List.any_cons]
   show zc6 (cond (zf0 c p i) _ _) _
   cases zf0 c p i with
   | true=>exact⟨_,rfl,rfl⟩
   | false=>simpa using ih (i+1) (by omega)
 have l6':=l6 (zaa c p) 0 (by omega)
 rw[← List.range_eq_range']at l6'
 have x1':znk (zb c.qq p)=some (zeV (P c p)):=zDt (x:=P c p) hrl
 have l2 : ∀ m i,i+m=zaI c p->zc6 (zpr c p (.l2 (i:Int))) (!((List.range' i m).any fun k=>!(zhx c p k))&&zeV (P c p)&&decide (zaa c p<=8)&&!((List.range (zaa c p)).any (zf0 c p))):=by
  intro m
  induction m with
  | zero=>
   intro i h
   rw[zjm]
   have hi':decide ((i:Int)<((zb c.qq p).qe.length:Int))=false:=z8 (by unfold zaI P at h;omega)
   simp only[zom,tnC,hi',cnF,x1',cnT,zul,id,Tree.run,qY]
   cases zeV (P c p)with
   | false=>exact⟨_,rfl,by simp⟩
   | true=>
    have e1:decide (((zb c.qq p).qt.length:Int)<=8)=decide (zaa c p<=8):=by rw[Bool.eq_iff_iff,qG,qG];unfold zaa P;omega
    rw[e1]
    cases decide (zaa c p<=8)with
    | false=>exact⟨_,rfl,by simp⟩
    | true=>simpa using l6'
  | succ m ih=>
   intro i h
   have hi:i<zaI c p:=by omega
   rw[zjm]
   have hi':i<(zb c.qq p).qe.length:=hi
   obtain ⟨e,r1',r2'⟩:=zBP hc hp hi
   simp only[zom,tnC,zY hi',cnT,r1',r2',zj i (by omega),id,Tree.run,qY]
   rw[List.range'_succ,List.any_cons]
   cases hq:zhx c p i with
   | false=>
    refine⟨_,rfl,?_⟩
    rw[r2',hq];simp
   | true=>simpa using ih (i+1) (by omega)
 have l2':=l2 (zaI c p) 0 (by omega)
 rw[← List.range_eq_range']at l2'
 unfold zwm zFa
 dsimp only [Tree.run0,Tree.run]
 simp only[tnC,zo hp,cnT,n1',zj2,id]
 have e8:(decide ((1:Int)<=((zb c.qq p).qe.length:Int))&&decide (((zb c.qq p).qe.length:Int)<=8))=(decide (1<=zaI c p)&&decide (zaI c p<=8)):=by
  rw[Bool.eq_iff_iff];simp only[qH,qG];unfold zaI P;omega
 rw[e8]
 unfold zev zmf
 show zc6 (cond (!(zdk c p)) _ (cond (!(decide (0<=(P c p).action)&&decide ((P c p).action<=2))) _ (cond (!(decide (0<=(P c p).qR)&&decide ((P c p).qR<=15))) _ (cond (!(decide (0<=(P c p).qE)&&decide ((P c p).qE<=16))) _ (cond (!(decide (0<=(P c p).qW)&&decide ((P c p).qW<=16))) _ (cond (!(decide (1<=zaI c p)&&decide (zaI c p<=8))) _ (zpr c p (.l2 0)))))))) _
 cases zdk c p with
 | false=>exact⟨_,rfl,rfl⟩
 | true=>
 cases decide (0<=(P c p).action)&&decide ((P c p).action<=2)with
 | false=>exact⟨_,rfl,rfl⟩
 | true=>
 cases decide (0<=(P c p).qR)&&decide ((P c p).qR<=15)with
 | false=>exact⟨_,rfl,rfl⟩
 | true=>
 cases decide (0<=(P c p).qE)&&decide ((P c p).qE<=16)with
 | false=>exact⟨_,rfl,rfl⟩
 | true=>
 cases decide (0<=(P c p).qW)&&decide ((P c p).qW<=16)with
 | false=>exact⟨_,rfl,rfl⟩
 | true=>
 cases decide (1<=zaI c p)&&decide (zaI c p<=8)with
 | false=>exact⟨_,rfl,rfl⟩
 | true=>simpa using l2'
theorem zor{α:Type}(b:Bool)(x:α):cond b x x=x:=by cases b <;> rfl
theorem zdf(x:zx):(((x.e:Int)==fine.e)&&((((x.where_.first:Int)==fine.where_.first)&&(((x.where_.second:Int)==fine.where_.second)&&true))&&true))=zcW x:=rfl
theorem zjW(x:zx):(⟨x.e,⟨x.where_.first,x.where_.second⟩⟩:zx)=x:=rfl
noncomputable def X0(c:za)(p:Nat)(x:zx)(i:Nat):Option zx:=zmZ c p (.l0 (i:Int) x.e x.where_.first x.where_.second)
noncomputable def X4(c:za)(p:Nat)(x:zx)(i:Nat):Option zx:=zmZ c p (.l4 (i:Int) x.e x.where_.first x.where_.second)
theorem zzk{c:za}{p i:Nat}{x:zx}(hx:x.e ≠ 0):X4 c p x i=some x:=by
 unfold X4
 rw[zed]
 simp only[zf8,tnC,zdf,zlB hx,cnF,zor,id,zjW,Tree.run,qY]
theorem zzj{c:za}{p i:Nat}{x:zx}(hx:x.e ≠ 0):X0 c p x i=some x:=by
 unfold X0
 rw[zed]
 simp only[zf8,tnC,zdf,zlB hx,cnF,Bool.not_false,cnT,zor,id,zjW,Tree.run,qY]
theorem zC9{c:za}(hc:zcr c){p:Nat}(hp:p<c.qq.length) : ∀ m i,i+m=zaa c p->AnsF (X4 c p fine i) (!((List.range' i m).any (zf0 c p))):=by
 have hql:zaa c p*16<=B47:=hc.qt p hp
 have hB:B47=140737488351232:=rfl
 intro m
 induction m with
 | zero=>
  intro i h
  unfold X4
  rw[zed]
  have hi':decide ((i:Int)<((zb c.qq p).qt.length:Int))=false:=z8 (by unfold zaa P at h;omega)
  simp only[zf8,tnC,hi',cnF,id,zjW,Tree.run,qY]
  exact .fine rfl
 | succ m ih=>
  intro i h
  have hi:i<(zb c.qq p).qt.length:=by unfold zaa P at h;omega
  have key:X4 c p fine i=X4 c p (zag (!(zf0 c p i)) 414 (zdI p i)) (i+1):=by
   unfold X4
   rw[zed]
   simp only[zf8,tnC,zY hi,zdf,zep,cnT,zo hi,zfJ,zj i (by omega),id,Tree.run,qY]
   unfold zf0
   rw[Bool.not_not]
   rfl
  rw[key,List.range'_succ,List.any_cons]
  cases zf0 c p i with
  | true=>
   rw[Bool.not_true,zjA,zzk (show(414:Int) ≠ 0 by decide)]
   exact .err' rfl (by decide)
  | false=>simpa [znQ]using ih (i+1) (by omega)
noncomputable def zpJ(c:za)(p:Nat):Bool:=zeV (P c p)&&decide (zaa c p<=8)&&!((List.range (zaa c p)).any (zf0 c p))
theorem zGV{c:za}(hc:zcr c){p:Nat}(hp:p<c.qq.length):AnsF (X0 c p fine (zaI c p)) (zpJ c p):=by
 have hrl:zaI c p*32<=B47:=hc.qe p hp
 have h4:=zC9 hc hp (zaa c p) 0 (by omega)
 rw[← List.range_eq_range']at h4
 have x1':znn (zb c.qq p)=some ((List.range (P c p).qe.length).any (zhW (P c p))):=zJT (x:=P c p) hrl
 have e1:decide (((zb c.qq p).qt.length:Int)<=8)=decide (zaa c p<=8):=by rw[Bool.eq_iff_iff,qG,qG];unfold zaa P;omega
 unfold X0
 rw[zed]
 have hi':decide ((zaI c p:Int)<((zb c.qq p).qe.length:Int))=false:=z8 (qD)
 simp only[zf8,tnC,hi',cnF,zdf,zep,Bool.not_true,x1',cnT,zfJ,e1,id,Tree.run,qY]
 have go : ∀ b:Bool,AnsF ((zbz [zag b 412 (za3 p),zag (decide (zaa c p<=8)) 413 (za3 p)]).bind fun r=>X4 c p r 0) (b&&decide (zaa c p<=8)&&!((List.range (zaa c p)).any (zf0 c p))):=fun b=>by
  obtain ⟨r,k1,k3,k4⟩:=zHA b (decide (zaa c p<=8)) 412 413 (za3 p) (za3 p) (by decide) (by decide)
  rw[k1,qY]
  cases hb:b&&decide (zaa c p<=8)with
  | false=>
   have:=k4 hb
   exact Eq.mpr (congrArg (fun o=>AnsF o _) (zzk this)) (.err rfl this)
  | true=>
   have:r=fine:=k3 hb
   rw[this]
   simpa using h4
 unfold zpJ zeV
 show AnsF (cond (decide (0<=(P c p).entry)&&decide ((P c p).entry<=4095)) _ _) _
 cases decide (0<=(P c p).entry)&&decide ((P c p).entry<=4095)with
 | true=>exact go _
 | false=>exact go false
theorem zC8{c:za}(hc:zcr c){p:Nat}(hp:p<c.qq.length) : ∀ m i,i+m=zaI c p->AnsF (X0 c p fine i) (!((List.range' i m).any fun k=>!(zhx c p k))&&zpJ c p):=by
 have hrl:zaI c p*32<=B47:=hc.qe p hp
 have hB:B47=140737488351232:=rfl
 intro m
 induction m with
 | zero=>
  intro i h
  obtain rfl:i=zaI c p:=by omega
  simpa using zGV hc hp
 | succ m ih=>
  intro i h
  have hi0:i<zaI c p:=by omega
  have hi:i<(zb c.qq p).qe.length:=hi0
  obtain ⟨r,k1',k3,k4⟩:=zBO hc hp hi0
  have key:X0 c p fine i=X0 c p r (i+1):=by
   unfold X0
   rw[zed]
   simp only[zf8,tnC,zY hi,zdf,zep,cnT,k1',zj i (by omega),id,Tree.run,qY]
  rw[key,List.range'_succ,List.any_cons]
  cases hq:zhx c p i with
  | false=>
   have:=k4 hq
   exact Eq.mpr (congrArg (fun o=>AnsF o _) (zzj this)) (.err (by simp) this)
  | true=>
   have:r=fine:=k3 hq
   rw[this]
   simpa using ih (i+1) (by omega)
theorem zsw{c:za}(hc:zcr c){p:Nat}(hp:p<c.qq.length):AnsF (zq1 c p) (zev c p):=by
 have h0:=zC8 hc hp (zaI c p) 0 (by omega)
 rw[← List.range_eq_range']at h0
 have n1':znm c p=some (zdk c p):=zDU hc hp
 have e8:(decide ((1:Int)<=((zb c.qq p).qe.length:Int))&&decide (((zb c.qq p).qe.length:Int)<=8))=(decide (1<=zaI c p)&&decide (zaI c p<=8)):=by
  rw[Bool.eq_iff_iff];simp only[qH,qG];unfold zaI P;omega
 have go : ∀ b1 b2 b3 b4:Bool,AnsF ((zbz [zag b1 405 (za3 p),zag b2 406 (za3 p),zag b3 407 (za3 p),zag b4 408 (za3 p)]).bind fun r=>X0 c p r 0) ((b1&&(b2&&(b3&&b4)))&&(!((List.range (zaI c p)).any fun k=>!(zhx c p k))&&zpJ c p)):=fun b1 b2 b3 b4=>by
  obtain ⟨r,k1,k3,k4⟩:=zHB b1 b2 b3 b4 405 406 407 408 (za3 p) (za3 p) (za3 p) (za3 p) (by decide) (by decide) (by decide) (by decide)
  rw[k1,qY]
  cases hb:b1&&(b2&&(b3&&b4))with
  | false=>
   have:=k4 hb
   rw[show X0 c p r 0=some r from zzj this]
   exact .err rfl this
  | true=>
   have:r=fine:=k3 hb
   rw[this]
   simpa using h0
 unfold zq1 zz1
 dsimp only [Tree.run0,Tree.run]
 simp only[tnC,zo hp,cnT,n1',zfJ,e8,id]
 have hfin:zev c p=(zmf c p&&(!((List.range (zaI c p)).any fun k=>!(zhx c p k))&&zpJ c p)):=by
  unfold zev zpJ
  cases zmf c p <;> cases (List.range (zaI c p)).any (fun k=>!(zhx c p k)) <;> cases zeV (P c p) <;> cases decide (zaa c p<=8) <;> rfl
 rw[hfin]
 unfold zmf
 show AnsF (cond (decide (0<=(P c p).action)&&decide ((P c p).action<=2)) (cond (decide (0<=(P c p).qE)&&decide ((P c p).qE<=16)) _ _) (cond (decide (0<=(P c p).qE)&&decide ((P c p).qE<=16)) _ _)) _
 cases decide (0<=(P c p).action)&&decide ((P c p).action<=2) <;> cases decide (0<=(P c p).qE)&&decide ((P c p).qE<=16)
 . exact go (zdk c p) false false _
 . exact go (zdk c p) false _ _
 . exact go (zdk c p) _ false _
 . exact go (zdk c p) _ _ _
theorem zdx{R:Type}(A:Option R->Bool->Prop){n:Nat}{f:Nat->Option R}{q:Nat->Bool}{e:Bool}(hs : ∀ i,i<n->(q i=true->A (f i) false)/\(q i=false->f i=f (i+1)))(he:(∀ i,i<n->q i=false)->A (f n) e):A (f 0) (!((List.range n).any q)&&e):=by
 have : ∀ k i,i+k=n->(∀ j,j<i->q j=false)->A (f i) (!((List.range' i k).any q)&&e):=by
  intro k
  induction k with
  | zero=>intro i h hq;simp at h;subst h;simpa using he hq
  | succ k ih=>
   intro i h hq
   obtain ⟨h1,h2⟩:=hs i (by omega)
   rw[List.range'_succ,List.any_cons]
   cases hqi:q i with
   | true=>simpa using h1 hqi
   | false=>
    rw[h2 hqi]
    simpa using ih (i+1) (by omega) fun j hj=>by
     by_cases hji:j=i
     . subst hji;exact hqi
     . exact hq j (by omega)
 have h:=this n 0 (by omega) (fun j hj=>by omega)
 rwa [← List.range_eq_range']at h
def tot(g:Nat->Nat):Nat->Nat
 | 0=>0
 | n+1=>tot g n+g n
def cnt(q:Nat->Bool):Nat->Nat:=tot fun k=>cond (q k) 1 0
theorem znO{g:Nat->Nat}{b:Nat} : ∀ {n:Nat},(∀ i,i<n->g i<=b)->tot g n<=n*b
 | 0,_=>by simp[tot]
 | n+1,h=>by
  have:=znO (n:=n) fun i hi=>h i (by omega)
  have:=h n (by omega)
  simp only[tot,Nat.add_mul,Nat.one_mul];omega
theorem zbS(q:Nat->Bool)(n:Nat):cnt q n<=n:=by
 have:=znO (g:=fun k=>cond (q k) 1 0) (b:=1) (n:=n) fun i _=>by cases q i <;> simp
 unfold cnt;simpa using this
theorem zbN(q:Nat->Bool)(n:Nat):cnt q (n+1)=cnt q n+cond (q n) 1 0:=rfl
noncomputable def zbW(c:za)(h:Int)(q k:Nat):Bool:=((Pt c q k).ql==h)&&(Pt c q k).qb
noncomputable def zaY(c:za)(h:Int)(q k:Nat):Bool:=((Pt c q k).ql==h)&&!(Pt c q k).qb
noncomputable def zgV(c:za)(h:Int)(n:Nat):Nat:=tot (fun q=>cnt (zbW c h q) (zaa c q)) n
noncomputable def zfd(c:za)(h:Int)(n:Nat):Nat:=tot (fun q=>cnt (zaY c h q) (zaa c q)) n
structure Few(c:za):Prop where
 parts:c.qq.length<=8
 qt : ∀ q,q<c.qq.length->zaa c q<=8
theorem zlN{c:za}(hw:Few c)(h:Int){n:Nat}(hn:n<=c.qq.length):zgV c h n<=64:=by
 have:=znO (g:=fun q=>cnt (zbW c h q) (zaa c q)) (b:=8) (n:=n) fun i hi=>Nat.le_trans (zbS _ _) (hw.qt i (by omega))
 have:=hw.parts
 unfold zgV;omega
theorem zlA{c:za}(hw:Few c)(h:Int){n:Nat}(hn:n<=c.qq.length):zfd c h n<=64:=by
 have:=znO (g:=fun q=>cnt (zaY c h q) (zaa c q)) (b:=8) (n:=n) fun i hi=>Nat.le_trans (zbS _ _) (hw.qt i (by omega))
 have:=hw.parts
 unfold zfd;omega
theorem zHn{c:za}(hw:Few c)(h:Int):zeC c h=some ((zgV c h c.qq.length:Int),(zfd c h c.qq.length:Int)):=by
 have h8:=hw.parts
 have inner : ∀ q,q<c.qq.length->∀ s d:Nat,s<=64->d<=64->zcG c h (.l4 (s:Int) (d:Int) (q:Int) 0)=zcG c h (.l0 ((s+cnt (zbW c h q) (zaa c q):Nat):Int) ((d+cnt (zaY c h q) (zaa c q):Nat):Int) ((q+1:Nat):Int)):=fun q hq s d hs hd=>by
  have hp8:=hw.qt q hq
  have:=zK (n:=zaa c q) (f:=fun k (x:Nat × Nat)=>zcG c h (.l4 (x.1:Int) (x.2:Int) (q:Int) (k:Int))) (S:=fun k=>(s+cnt (zbW c h q) k,d+cnt (zaY c h q) k)) (fun k hk=>by
   have hk':k<(zb c.qq q).qt.length:=hk
   have l1:=zbS (zbW c h q) k
   have l2:=zbS (zaY c h q) k
   dsimp only
   rw[zee]
   simp only[zf9,tnC,zo hq,cnT,zY hk',zo hk',zj (s+cnt (zbW c h q) k) (by omega),id,Tree.run,qY]
   have e17 : ∀ a b:Int,zcG c h (.l17 a b (q:Int) (k:Int))=zcG c h (.l4 a b (q:Int) ((k+1:Nat):Int)):=fun a b=>by
    rw[zee]
    simp only[zf9,zj k (by omega),id,Tree.run,qY]
   have e25 : ∀ a:Int,zcG c h (.l25 a ((d+cnt (zaY c h q) k:Nat):Int) (q:Int) (k:Int) (Pt c q k).ql (Pt c q k).qb)=zcG c h (.l4 a ((d+cnt (zaY c h q) (k+1):Nat):Int) (q:Int) ((k+1:Nat):Int)):=fun a=>by
    rw[zee]
    simp only[zf9,zj (d+cnt (zaY c h q) k) (by omega),e17,id,Tree.run,qY]
    rw[zbN]
    unfold zaY
    cases (Pt c q k).ql==h <;> cases (Pt c q k).qb <;> rfl
   show cond ((Pt c q k).ql==h) (cond (Pt c q k).qb (zcG c h (.l25 _ _ _ _ (Pt c q k).ql (Pt c q k).qb)) (zcG c h (.l25 _ _ _ _ (Pt c q k).ql (Pt c q k).qb))) (zcG c h (.l25 _ _ _ _ (Pt c q k).ql (Pt c q k).qb))=_
   rw[e25,e25]
   rw[zbN (zbW c h q)]
   unfold zbW
   cases (Pt c q k).ql==h <;> cases (Pt c q k).qb <;> rfl)
  refine Eq.trans this ?_
  dsimp only
  rw[zee]
  have hi':decide ((zaa c q:Int)<((zb c.qq q).qt.length:Int))=false:=z8 (qD)
  simp only[zf9,tnC,zo hq,cnT,hi',cnF,zj q (by omega),id,Tree.run,qY]
 have outer:=zK (n:=c.qq.length) (f:=fun q (x:Nat × Nat)=>zcG c h (.l0 (x.1:Int) (x.2:Int) (q:Int))) (S:=fun q=>(zgV c h q,zfd c h q)) (fun q hq=>by
  dsimp only
  rw[zee]
  simp only[zf9,zY hq,cnT,id,Tree.run,qY]
  exact inner q hq _ _ (zlN hw h (by omega)) (zlA hw h (by omega)))
 refine Eq.trans (show _=zcG c h (.l0 0 0 0)from rfl) (Eq.trans outer ?_)
 dsimp only
 rw[zee]
 simp only[zf9,z8 (qD),cnF,id,Tree.run,qY]
theorem zHm{c:za}(hw:Few c)(h:Int):zrc c h=some ((zgV c h c.qq.length:Int),(zfd c h c.qq.length:Int)):=by
 have h8:=hw.parts
 have inner : ∀ q,q<c.qq.length->∀ s d:Nat,s<=64->d<=64->ze0 c h (.l4 (s:Int) (d:Int) (q:Int) (P c q).qt ((P c q).qt.length) 0)=ze0 c h (.l0 ((s+cnt (zbW c h q) (zaa c q):Nat):Int) ((d+cnt (zaY c h q) (zaa c q):Nat):Int) ((q+1:Nat):Int)):=fun q hq s d hs hd=>by
  have hp8:=hw.qt q hq
  have:=zK (n:=zaa c q) (f:=fun k (x:Nat × Nat)=>ze0 c h (.l4 (x.1:Int) (x.2:Int) (q:Int) (P c q).qt ((P c q).qt.length) (k:Int))) (S:=fun k=>(s+cnt (zbW c h q) k,d+cnt (zaY c h q) k)) (fun k hk=>by
   have hk':k<(P c q).qt.length:=hk
   have l1:=zbS (zbW c h q) k
   have l2:=zbS (zaY c h q) k
   dsimp only
   rw[zfn]
   simp only[zhQ,tnC,cnT,zY hk',zo hk',zj (s+cnt (zbW c h q) k) (by omega),zj (d+cnt (zaY c h q) k) (by omega),id,Tree.run,qY]
   have e23 : ∀ a b:Int,ze0 c h (.l23 a b (q:Int) (P c q).qt ((P c q).qt.length) (k:Int))=ze0 c h (.l4 a b (q:Int) (P c q).qt ((P c q).qt.length) ((k+1:Nat):Int)):=fun a b=>by
    rw[zfn]
    simp only[zhQ,zj k (by omega),id,Tree.run,qY]
   rw[e23,e23,e23,zbN,zbN]
   unfold zbW zaY
   show cond (!((Pt c q k).ql==h)) _ (cond (Pt c q k).qb _ _)=_
   cases (Pt c q k).ql==h <;> cases (Pt c q k).qb <;> rfl)
  refine Eq.trans this ?_
  dsimp only
  rw[zfn]
  have hi':decide ((zaa c q:Int)<((P c q).qt.length:Int))=false:=z8 (qD)
  simp only[zhQ,hi',cnF,zj q (by omega),id,Tree.run,qY]
 have outer:=zK (n:=c.qq.length) (f:=fun q (x:Nat × Nat)=>ze0 c h (.l0 (x.1:Int) (x.2:Int) (q:Int))) (S:=fun q=>(zgV c h q,zfd c h q)) (fun q hq=>by
  dsimp only
  rw[zfn]
  simp only[zhQ,zY hq,zo hq,cnT,tnC,id,Tree.run,qY]
  exact inner q hq _ _ (zlN hw h (by omega)) (zlA hw h (by omega)))
 refine Eq.trans (show _=ze0 c h (.l0 0 0 0)from rfl) (Eq.trans outer ?_)
 dsimp only
 rw[zfn]
 simp only[zhQ,z8 (qD),cnF,id,Tree.run,qY]
noncomputable def Ch(c:za)(h:Nat):zI:=zw c.qw h
noncomputable def zgc(c:za)(h:Nat):Bool:=
 (((decide (1<=(Ch c h).kind)&&decide ((Ch c h).kind<=2))&&(decide (1<=(Ch c h).qx)&&decide ((Ch c h).qx<=16)))&&cond ((Ch c h).kind==2) (decide (1<=(Ch c h).qy)&&decide ((Ch c h).qy<=8)) ((Ch c h).qy==0))&&
   (((zgV c h c.qq.length:Int)==1)&&(decide ((1:Int)<=(zfd c h c.qq.length:Int))&&decide ((zfd c h c.qq.length:Int)<=cond ((Ch c h).kind==2) 1 4)))
theorem zxA{c:za}(hw:Few c){h:Nat}(hh:h<c.qw.length):zCO (zwn c h) (zgc c h):=by
 have e1':zeC c (h:Int)=some _:=zHn hw (h:Int)
 unfold zwn
 dsimp only [Tree.run0,Tree.run]
 have hch:zw c.qw h=Ch c h:=rfl
 simp only[zo hh,cnT,e1',qY,zj2,id,tnC,hch]
 unfold zgc
 generalize (Ch c h).kind=kd
 generalize (Ch c h).qy=dp
 generalize hs:(zgV c h c.qq.length:Int)=s
 generalize hd:(zfd c h c.qq.length:Int)=d
 generalize (decide (1<=(Ch c h).qx)&&decide ((Ch c h).qx<=16))=wd
 by_cases k2:kd=2
 . subst k2
   have d1:(decide (1<=d)&&decide (d<=1))=(d==1):=by rw[Bool.eq_iff_iff];simp;omega
   simp only[qI,cnT,cnF,Bool.not_true,d1]
   cases wd <;> cases decide (1<=dp)&&decide (dp<=8) <;> cases s==1 <;> cases d==1 <;> exact⟨_,rfl,rfl⟩
 . have k2':(kd==2)=false:=by simpa using k2
   by_cases k1:kd=1
   . subst k1
     simp only[k2',cnT,cnF,Bool.not_false,qI,Bool.not_true]
     cases wd <;> cases dp==0 <;> cases s==1 <;> cases decide (1<=d)&&decide (d<=4) <;> exact⟨_,rfl,rfl⟩
   . have k1':(kd==1)=false:=by simpa using k1
     have k12:(decide (1<=kd)&&decide (kd<=2))=false:=by
      rw[Bool.and_eq_false_iff,decide_eq_false_iff_not,decide_eq_false_iff_not];omega
     simp only[k2',k1',k12,cnT,Bool.not_false,Bool.false_and]
     exact⟨_,rfl,rfl⟩
theorem zDj{α:Type}(o:Option α):(o.bind fun r=>some r)=o:=by cases o <;> rfl
theorem zxz{c:za}(hw:Few c){h:Nat}(hh:h<c.qw.length):AnsF (zq3 c h) (zgc c h):=by
 have e1':zrc c (h:Int)=some _:=zHm hw (h:Int)
 have hf : ∀ b1 b2 b3:Bool,AnsF ((zbz [zag b1 415 (za3 h),zag b2 416 (za3 h),zag b3 417 (za3 h)]).bind fun r=>some r) (b1&&(b2&&b3)):=fun b1 b2 b3=>by
  rw[zDj]
  exact zAB b1 b2 b3 415 416 417 (za3 h) (za3 h) (za3 h) (by decide) (by decide) (by decide)
 have l11 : ∀ (b:Bool) (m:Int),AnsF (zkh c h (.l11 b m)) (((decide (1<=(Ch c h).kind)&&decide ((Ch c h).kind<=2))&&(decide (1<=(Ch c h).qx)&&decide ((Ch c h).qx<=16))&&b)&&(((zgV c h c.qq.length:Int)==1)&&(decide ((1:Int)<=(zfd c h c.qq.length:Int))&&decide ((zfd c h c.qq.length:Int)<=m)))):=fun b m=>by
  rw[zyl]
  simp only[ztT,e1',cnT,zfJ,id,tnC,Tree.run,qY]
  show AnsF (cond (decide (1<=(Ch c h).kind)&&decide ((Ch c h).kind<=2)) (cond (decide (1<=(Ch c h).qx)&&decide ((Ch c h).qx<=16)) _ _) _) _
  cases decide (1<=(Ch c h).kind)&&decide ((Ch c h).kind<=2) <;> cases decide (1<=(Ch c h).qx)&&decide ((Ch c h).qx<=16)
  . exact hf false _ _
  . exact hf false _ _
  . exact hf false _ _
  . exact hf b _ _
 unfold zq3 zz2
 dsimp only [Tree.run0,Tree.run]
 simp only[zo hh,cnT,zfJ,id,tnC]
 unfold zgc
 show AnsF (cond ((Ch c h).kind==2) (zkh c h (.l11 (decide (1<=(Ch c h).qy)&&decide ((Ch c h).qy<=8)) 1)) (zkh c h (.l11 ((Ch c h).qy==0) 4))) _
 cases (Ch c h).kind==2 with
 | true=>exact l11 _ _
 | false=>exact l11 _ _
noncomputable def zce(c:za)(i:Nat):Nat:=(zD c.qp i).length
noncomputable def Win(c:za)(i n:Nat):zan:=zbC (zD c.qp i) n
noncomputable def znI(c:za)(p:Int)(i n:Nat):Bool:=!(p==(-1))&&((Win c i n).qk==p)
noncomputable def zin(c:za)(k:Nat)(p:Int):Bool:=(List.range k).any fun i=>(List.range (zce c i)).any (znI c p i)
theorem zmU(b:Bool):cond b (some true) (some false)=some b:=by cases b <;> rfl
theorem zEf{c:za}(hc:zcr c){k:Nat}(hk:k<=c.qp.length)(p:Int):zq9 c k p=some (zin c k p):=by
 have hB:B47=140737488351232:=rfl
 have hcl:=hc.qp
 have inner : ∀ i,i<k->zfQ c k p (.l4 (i:Int) 0)=cond ((List.range (zce c i)).any (znI c p i)) (some true) (zfQ c k p (.l0 ((i+1:Nat):Int))):=fun i hi=>by
  have hic:i<c.qp.length:=by omega
  have hwl:zce c i*24<=B47:=hc.core i hic
  exact zao (n:=zce c i) (f:=fun n=>zfQ c k p (.l4 (i:Int) (n:Int))) (q:=znI c p i) (r:=some true) (e:=zfQ c k p (.l0 ((i+1:Nat):Int))) (fun n hn=>by
   have hn':n<(zD c.qp i).length:=hn
   rw[zhm]
   simp only[zjL,tnC,zo hic,cnT,zY hn',zo hn',zj n (by omega),id,zfb,Tree.run,qY]
   rfl) (by
   rw[zhm]
   have hn':decide ((zce c i:Int)<((zD c.qp i).length:Int))=false:=z8 (qD)
   simp only[zjL,tnC,zo hic,cnT,hn',cnF,zj i (by omega),id,Tree.run,qY])
 have outer:=zao (n:=k) (f:=fun i=>zfQ c k p (.l0 (i:Int))) (q:=fun i=>(List.range (zce c i)).any (znI c p i)) (r:=some true) (e:=some false) (fun i hi=>by
  rw[zhm]
  simp only[zjL,zY hi,cnT,id,Tree.run,qY]
  exact inner i hi) (by
  rw[zhm]
  simp only[zjL,z8 (qD),cnF,id,Tree.run,qY])
 exact Eq.trans (show _=zfQ c k p (.l0 0)from rfl) (Eq.trans outer (zmU _))
noncomputable def zhr(c:za)(p:Int)(i n:Nat):Bool:=decide (p>=0)&&((Win c i n).qk==p)
theorem zJ3{c:za}{k i:Nat}(hi:i<k):zD ((c.qp.take k).drop 0) i=zD c.qp i:=by
 simp[zD,List.getD,List.getElem?_take,hi]
theorem zEe{c:za}(hc:zcr c){k:Nat}(hk:k<=c.qp.length)(p:Int):zno c k p=some ((List.range k).any fun i=>(List.range (zce c i)).any (zhr c p i)):=by
 have hB:B47=140737488351232:=rfl
 have hcl:=hc.qp
 have htl:((c.qp.take k).drop 0).length=k:=by simp;omega
 have inner : ∀ i,i<k->zgG c k p (.l4 (i:Int) (zD c.qp i) ((zD c.qp i).length) 0)=cond ((List.range (zce c i)).any (zhr c p i)) (some true) (zgG c k p (.l0 ((i+1:Nat):Int))):=fun i hi=>by
  have hic:i<c.qp.length:=by omega
  have hwl:zce c i*24<=B47:=hc.core i hic
  exact zao (n:=zce c i) (f:=fun n=>zgG c k p (.l4 (i:Int) (zD c.qp i) ((zD c.qp i).length) (n:Int))) (q:=zhr c p i) (r:=some true) (e:=zgG c k p (.l0 ((i+1:Nat):Int))) (fun n hn=>by
   have hn':n<(zD c.qp i).length:=hn
   rw[zhn]
   simp only[zjM,tnC,cnT,zY hn',zo hn',zj n (by omega),id,zfb,Tree.run,qY]
   rfl) (by
   rw[zhn]
   have hn':decide ((zce c i:Int)<((zD c.qp i).length:Int))=false:=z8 (qD)
   simp only[zjM,hn',cnF,zj i (by omega),id,Tree.run,qY])
 have outer:=zao (n:=k) (f:=fun i=>zgG c k p (.l0 (i:Int))) (q:=fun i=>(List.range (zce c i)).any (zhr c p i)) (r:=some true) (e:=some false) (fun i hi=>by
  rw[zhn]
  simp only[zjM,tnC,htl,zY hi,zo hi,cnT,zJ3 hi,id,Tree.run,qY]
  exact inner i hi) (by
  rw[zhn]
  simp only[zjM,tnC,htl,z8 (qD),cnF,id,Tree.run,qY])
 unfold zno zAc
 dsimp only [Tree.run0,Tree.run]
 rw[zmh hk,cnT]
 exact Eq.trans outer (zmU _)
noncomputable def sW(c:za)(k:Nat):Nat->Int
 | 0=>0
 | n+1=>i64.wrap (sW c k n+i64.wrap ((Win c k n).qm+(Win c k n).qQ))
noncomputable def w1(c:za)(k n:Nat):Bool:=decide ((-1)<=(Win c k n).qk)&&decide ((Win c k n).qk<=i64.wrap ((c.qq.length:Int)-1))
noncomputable def w2(c:za)(k n:Nat):Bool:=decide (1<=(Win c k n).qm)&&decide ((Win c k n).qm<=16384)
noncomputable def w3(c:za)(k n:Nat):Bool:=decide (82<=(Win c k n).qQ)&&decide ((Win c k n).qQ<=16384)
noncomputable def zCF(c:za)(k n:Nat):Bool:=!(w1 c k n&&(w2 c k n&&(w3 c k n&&!(zin c k (Win c k n).qk))))
noncomputable def ziE(c:za)(k:Nat):Bool:=(decide (1<=zce c k)&&decide (zce c k<=16))&&(!((List.range (zce c k)).any (zCF c k))&&(sW c k (zce c k)==c.major))
theorem zwC{c:za}{k:Nat}:(decide ((1:Int)<=((zD c.qp k).length:Int))&&decide (((zD c.qp k).length:Int)<=16))=(decide (1<=zce c k)&&decide (zce c k<=16)):=by
 rw[Bool.eq_iff_iff];simp only[qH,qG];unfold zce;omega
theorem zHa{c:za}(hc:zcr c){k:Nat}(hk:k<c.qp.length):zc6 (zwo c k) (ziE c k):=by
 have hB:B47=140737488351232:=rfl
 have hwl:zce c k*24<=B47:=hc.core k hk
 have hl:=zdx zc6 (n:=zce c k) (f:=fun n=>zv8 c k (.l0 (sW c k n) (n:Int))) (q:=zCF c k) (e:=sW c k (zce c k)==c.major) (fun n hn=>by
  have hn':n<(zD c.qp k).length:=hn
  have hW:zbC (zD c.qp k) n=Win c k n:=rfl
  have h1:(decide ((-1)<=(Win c k n).qk)&&decide ((Win c k n).qk<=i64.wrap ((c.qq.length:Int)-1)))=w1 c k n:=rfl
  have h2:(decide (1<=(Win c k n).qm)&&decide ((Win c k n).qm<=16384))=w2 c k n:=rfl
  have h3:(decide (82<=(Win c k n).qQ)&&decide ((Win c k n).qQ<=16384))=w3 c k n:=rfl
  have h4:i64.wrap (sW c k n+i64.wrap ((Win c k n).qm+(Win c k n).qQ))=sW c k (n+1):=rfl
  have s1':zq9 c k (Win c k n).qk=some (zin c k (Win c k n).qk):=zEf hc (Nat.le_of_lt hk) (Win c k n).qk
  rw[zs7]
  simp only[zvh,tnC,zo hk,cnT,zY hn',zo hn',zj2,hW,h1,h2,h3,h4,s1',zj n (by omega),id,Tree.run,qY]
  unfold zCF
  cases w1 c k n <;> cases w2 c k n <;> cases w3 c k n <;> cases zin c k (Win c k n).qk <;> first
   | exact⟨fun _=>⟨_,rfl,rfl⟩,fun h=>by cases h⟩
   | exact⟨fun h=>by(cases h),fun _=>rfl⟩) (fun _=>by
  rw[zs7]
  have hn':decide ((zce c k:Int)<((zD c.qp k).length:Int))=false:=z8 (qD)
  simp only[zvh,tnC,zo hk,cnT,hn',cnF,id,Tree.run,qY]
  cases sW c k (zce c k)==c.major <;> exact⟨_,rfl,rfl⟩)
 unfold zwo zFb
 dsimp only [Tree.run0,Tree.run]
 simp only[tnC,zo hk,cnT,zj2,zwC,id]
 unfold ziE
 cases decide (1<=zce c k)&&decide (zce c k<=16)with
 | false=>exact⟨_,rfl,rfl⟩
 | true=>simpa [show sW c k 0=0 from rfl]using hl
theorem zG9{c:za}(hc:zcr c){k:Nat}(hk:k<c.qp.length):AnsF (zq5 c k) (ziE c k):=by
 have hB:B47=140737488351232:=rfl
 have hwl:zce c k*24<=B47:=hc.core k hk
 have hl:=zdx AnsF (n:=zce c k) (f:=fun n=>zqR c k (.l0 (sW c k n) (n:Int))) (q:=zCF c k) (e:=sW c k (zce c k)==c.major) (fun n hn=>by
  have hn':n<(zD c.qp k).length:=hn
  have hW:zbC (zD c.qp k) n=Win c k n:=rfl
  have h1:(decide ((-1)<=(Win c k n).qk)&&decide ((Win c k n).qk<=i64.wrap ((c.qq.length:Int)-1)))=w1 c k n:=rfl
  have h2:(decide (1<=(Win c k n).qm)&&decide ((Win c k n).qm<=16384))=w2 c k n:=rfl
  have h3:(decide (82<=(Win c k n).qQ)&&decide ((Win c k n).qQ<=16384))=w3 c k n:=rfl
  have h4:i64.wrap (sW c k n+i64.wrap ((Win c k n).qm+(Win c k n).qQ))=sW c k (n+1):=rfl
  have s1':zno c k (Win c k n).qk=some _:=zEe hc (Nat.le_of_lt hk) (Win c k n).qk
  rw[zpc]
  simp only[zp2,tnC,cnT,zY hn',zo hn',zfJ,hW,h1,h2,h3,h4,s1',zj n (by omega),id,zdf,Tree.run,qY]
  generalize hsp:((List.range k).any fun i=>(List.range (zce c i)).any (zhr c (Win c k n).qk i))=sa
  have hgo : ∀ b2 b3 b4:Bool,∀ X:Option zx,let o:=(zbz [zag b2 419 (zdI k n),zag b3 420 (zdI k n),zag b4 422 (zdI k n)]).bind fun r=>cond (!(zcW r)) (some r) X
   ((!(b2&&(b3&&b4)))=true->AnsF o false)/\((!(b2&&(b3&&b4)))=false->o=X):=fun b2 b3 b4 X=>by
   obtain ⟨r,k1,k3,k4⟩:=zAB b2 b3 b4 419 420 422 (zdI k n) (zdI k n) (zdI k n) (by decide) (by decide) (by decide)
   have k2':zcW r=(b2&&(b3&&b4)):=zpX k3 k4
   dsimp only
   rw[k1,qY,k2']
   cases hb:b2&&(b3&&b4)with
   | false=>exact⟨fun _=>.err rfl (k4 hb),fun h=>by cases h⟩
   | true=>exact⟨fun h=>by(cases h),fun _=>rfl⟩
  have hsplit:w1 c k n=true->sa=zin c k (Win c k n).qk:=fun h1=>by
   simp only[w1,qH,qG]at h1
   rw[← hsp]
   unfold zin
   refine zhN fun i _=>zhN fun j _=>?_
   unfold zhr znI
   congr 1
   rw[Bool.eq_iff_iff];simp;omega
  unfold zCF
  cases hw1:w1 c k n with
  | true=>
   rw[hsplit hw1]
   exact hgo (w2 c k n) (w3 c k n) (!(zin c k (Win c k n).qk)) _
  | false=>
   refine⟨fun _=>(hgo false (w3 c k n) (!sa) _).1 rfl,fun h=>by cases h⟩) (fun _=>by
  rw[zpc]
  have hn':decide ((zce c k:Int)<((zD c.qp k).length:Int))=false:=z8 (qD)
  simp only[zp2,tnC,hn',cnF,id,Tree.run,qY]
  cases sW c k (zce c k)==c.major with
  | true=>rw[znQ];exact .fine rfl
  | false=>rw[zjA];exact .err' rfl (by decide))
 unfold zq5 zz3
 dsimp only [Tree.run0,Tree.run]
 simp only[tnC,zo hk,cnT,zfJ,zwC,id]
 unfold ziE
 cases decide (1<=zce c k)&&decide (zce c k<=16)with
 | false=>exact .err' rfl (by decide)
 | true=>simpa [show sW c k 0=0 from rfl]using hl
noncomputable def zcp(c:za):Bool:=(decide (1<=c.qr)&&decide (c.qr<=1024))&&((decide (1<=c.major)&&decide (c.major<=16384))&&((decide (1<=c.qp.length)&&decide (c.qp.length<=4))&&((decide (1<=c.qq.length)&&decide (c.qq.length<=8))&&decide (c.qw.length<=16))))
noncomputable def zdN(c:za):Bool:=!((List.range c.qq.length).any fun p=>!(zev c p))
noncomputable def zcU(c:za):Bool:=!((List.range c.qw.length).any fun h=>!(zgc c h))
noncomputable def zco(c:za):Bool:=!((List.range c.qp.length).any fun k=>!(ziE c k))
noncomputable def zlt(c:za):Bool:=zcp c&&(zdN c&&(zcU c&&zco c))
theorem zj8{n:Nat}{q:Nat->Bool}(h:(!((List.range n).any fun i=>!(q i)))=true) : ∀ i,i<n->q i=true:=fun i hi=>by
 have h':((List.range n).any fun i=>!(q i))=false:=by simpa using h
 have:=any_f.1 h' i hi
 simpa using this
theorem zug{c:za}(h1:zcp c=true)(h2 : ∀ p,p<c.qq.length->zev c p=true):Few c:=by
 simp only[zcp,qH,qG]at h1
 refine⟨h1.2.2.2.1.2,fun q hq=>?_⟩
 have:=h2 q hq
 simp only[zev,qH,qG]at this
 exact this.1.2
theorem zqt(n a b:Nat):(decide ((a:Int)<=(n:Int))&&decide ((n:Int)<=(b:Int)))=(decide (a<=n)&&decide (n<=b)):=by
 rw[Bool.eq_iff_iff];simp only[qH,qG];omega
theorem zwB(c:za):(zyf c==0)=zcp c:=by
 unfold zyf zcp
 dsimp only [Tree.val]
 have e1:=zqt c.qp.length 1 4
 have e2:=zqt c.qq.length 1 8
 have e3:decide ((c.qw.length:Int)>16)=!(decide (c.qw.length<=16)):=by rw[zul];congr 1;rw[Bool.eq_iff_iff,qG,qG];omega
 simp only[zj2,id]
 rw[show(decide ((1:Int)<=(c.qp.length:Int))&&decide ((c.qp.length:Int)<=4))=_ from e1,show(decide ((1:Int)<=(c.qq.length:Int))&&decide ((c.qq.length:Int)<=8))=_ from e2,e3]
 cases decide (1<=c.qr)&&decide (c.qr<=1024) <;> cases decide (1<=c.major)&&decide (c.major<=16384) <;> cases decide (1<=c.qp.length)&&decide (c.qp.length<=4) <;> cases decide (1<=c.qq.length)&&decide (c.qq.length<=8) <;> cases decide (c.qw.length<=16) <;> rfl
theorem zDo{c:za}(hc:zcr c){kb:Bool}(hk:zlt c=true->zpz c=some kb):zc6 (zfv c) (zlt c&&kb):=by
 have hB:B47=140737488351232:=rfl
 have hpl:=hc.parts
 have hcl:=hc.qp
 have hhl:=hc.chans
 unfold zfv zEW
 dsimp only [Tree.run0,Tree.run]
 rw[zwB]
 unfold zlt
 cases hw:zcp c with
 | false=>
  refine⟨_,rfl,?_⟩
  show(zyf c==0)=_
  rw[zwB,hw];rfl
 | true=>
 have h8:zcp c=true->zdN c=true->zcU c=true->zc6 (zjg c (.l8 0)) (zco c&&kb):=fun hw hp hh=>by
  refine zdx zc6 (n:=c.qp.length) (f:=fun k=>zjg c (.l8 (k:Int))) (q:=fun k=>!(ziE c k)) (e:=kb) (fun k hkk=>?_) (fun hq=>?_)
  . obtain ⟨r,k1',k2'⟩:=zHa hc hkk
    rw[zfp]
    simp only[zkJ,zY hkk,cnT,k1',k2',zj k (by omega),id,Tree.run,qY]
    cases hb:ziE c k with
    | true=>exact⟨fun h=>by(cases h),fun _=>rfl⟩
    | false=>exact⟨fun _=>⟨_,rfl,by rw[k2',hb]⟩,fun h=>by cases h⟩
  . have hco:zco c=true:=by
     unfold zco
     rw[any_f.2 hq];rfl
    have a1':zpz c=some kb:=hk (by unfold zlt;rw[hw,hp,hh,hco];rfl)
    rw[zfp]
    simp only[zkJ,z8 (qD),cnF,a1',cnT,id,Tree.run,qY]
    cases kb <;> exact⟨_,rfl,rfl⟩
 have h4:zcp c=true->zdN c=true->zc6 (zjg c (.l4 0)) (zcU c&&(zco c&&kb)):=fun hw hp=>by
  have hfew:=zug hw (zj8 hp)
  refine zdx zc6 (n:=c.qw.length) (f:=fun k=>zjg c (.l4 (k:Int))) (q:=fun k=>!(zgc c k)) (e:=zco c&&kb) (fun k hkk=>?_) (fun hq=>?_)
  . obtain ⟨r,k1',k2'⟩:=zxA hfew hkk
    rw[zfp]
    simp only[zkJ,zY hkk,cnT,k1',k2',zj k (by omega),id,Tree.run,qY]
    cases hb:zgc c k with
    | true=>exact⟨fun h=>by(cases h),fun _=>rfl⟩
    | false=>exact⟨fun _=>⟨_,rfl,by rw[k2',hb]⟩,fun h=>by cases h⟩
  . have hco:zcU c=true:=by
     unfold zcU
     rw[any_f.2 hq];rfl
    rw[zfp]
    simp only[zkJ,z8 (qD),cnF,id,Tree.run,qY]
    exact h8 hw hp hco
 have h0:zc6 (zjg c (.l0 0)) (zdN c&&(zcU c&&(zco c&&kb))):=by
  refine zdx zc6 (n:=c.qq.length) (f:=fun k=>zjg c (.l0 (k:Int))) (q:=fun k=>!(zev c k)) (e:=zcU c&&(zco c&&kb)) (fun k hkk=>?_) (fun hq=>?_)
  . obtain ⟨r,k1',k2'⟩:=zsx hc hkk
    rw[zfp]
    simp only[zkJ,zY hkk,cnT,k1',k2',zj k (by omega),id,Tree.run,qY]
    cases hb:zev c k with
    | true=>exact⟨fun h=>by(cases h),fun _=>rfl⟩
    | false=>exact⟨fun _=>⟨_,rfl,by rw[k2',hb]⟩,fun h=>by cases h⟩
  . have hco:zdN c=true:=by
     unfold zdN
     rw[any_f.2 hq];rfl
    rw[zfp]
    simp only[zkJ,z8 (qD),cnF,id,Tree.run,qY]
    exact h4 hw hco
 simpa [Bool.and_assoc]using h0
noncomputable def ziN(c:za):List Clo:=[(Clo.c113 c),(Clo.c116 c),(Clo.c117 c),(Clo.c118 c),(Clo.c119 c)]
noncomputable def QL1(c:za)(n:Nat):List Clo:=ziN c++(List.range n).map fun p:Nat=>Clo.c120 c (p:Int)
noncomputable def QL2(c:za)(n:Nat):List Clo:=QL1 c c.qq.length++(List.range n).map fun p:Nat=>Clo.c122 c (p:Int)
noncomputable def QL3(c:za)(n:Nat):List Clo:=QL2 c c.qw.length++(List.range n).map fun p:Nat=>Clo.c124 c (p:Int)
noncomputable def QL4(c:za):List Clo:=QL3 c c.qp.length++[Clo.c126 c]
theorem zbu{α:Type}(g:Nat->α)(n:Nat):(List.range (n+1)).map g=(List.range n).map g++[g n]:=by simp[List.range_succ]
theorem zqJ{c:za}(hc:zcr c):zCa c=some (QL4 c):=by
 have hB:B47=140737488351232:=rfl
 have hpl:=hc.parts
 have hcl:=hc.qp
 have hhl:=hc.chans
 have n1 : ∀ n,(QL1 c n).length=5+n:=fun n=>by simp[QL1,ziN];omega
 have n2 : ∀ n,(QL2 c n).length=5+c.qq.length+n:=fun n=>by simp[QL2,n1]
 have n3 : ∀ n,(QL3 c n).length=5+c.qq.length+c.qw.length+n:=fun n=>by simp[QL3,n2]
 have l1:=zK (n:=c.qq.length) (f:=fun i l=>znc c (.l0 (i:Int) l)) (S:=QL1 c) (fun i hi=>by
  rw[zfs]
  simp only[zkM,zY hi,cnT,zj i (by omega),n1,Tree.run,qY]
  rw[zaZ (by simp only[qO];omega),cnT]
  unfold QL1
  rw[zbu,List.append_assoc])
 have l2:=zK (n:=c.qw.length) (f:=fun i l=>znc c (.l4 (i:Int) l)) (S:=QL2 c) (fun i hi=>by
  rw[zfs]
  simp only[zkM,zY hi,cnT,zj i (by omega),n2,Tree.run,qY]
  rw[zaZ (by simp only[qO];omega),cnT]
  unfold QL2
  rw[zbu,List.append_assoc])
 have l3:=zK (n:=c.qp.length) (f:=fun i l=>znc c (.l8 (i:Int) l)) (S:=QL3 c) (fun i hi=>by
  rw[zfs]
  simp only[zkM,zY hi,cnT,zj i (by omega),n3,Tree.run,qY]
  rw[zaZ (by simp only[qO];omega),cnT]
  unfold QL3
  rw[zbu,List.append_assoc])
 have z1:QL1 c 0=ziN c:=by simp[QL1]
 have z2:QL2 c 0=QL1 c c.qq.length:=by simp[QL2]
 have z3:QL3 c 0=QL2 c c.qw.length:=by simp[QL3]
 rw[z1]at l1;rw[z2]at l2;rw[z3]at l3
 refine Eq.trans (show _=znc c (.l0 0 (ziN c))from rfl) (Eq.trans l1 ?_)
 rw[zfs]
 simp only[zkM,z8 (qD),cnF,Tree.run,qY]
 refine Eq.trans l2 ?_
 rw[zfs]
 simp only[zkM,z8 (qD),cnF,Tree.run,qY]
 refine Eq.trans l3 ?_
 rw[zfs]
 simp only[zkM,z8 (qD),cnF,n3,Tree.run,qY]
 rw[zaZ (by simp only[qO];omega),cnT]
 rfl
theorem zyM(c:za):(QL4 c).length=6+c.qq.length+c.qw.length+c.qp.length:=by simp[QL4,QL3,QL2,QL1,ziN];omega
theorem zyL(c:za){i:Nat}(hi:i<5):zfV (QL4 c) i=(ziN c).getD i Clo.none:=by
 have h:(ziN c).length=5:=rfl
 unfold zfV QL4 QL3 QL2 QL1
 rw[zax,if_pos (by simp;omega),zax,if_pos (by simp;omega),zax,if_pos (by simp;omega),zax,if_pos (by omega)]
theorem zeq{α:Type}(g:Nat->α){n i:Nat}(hi:i<n)(d:α):((List.range n).map g).getD i d=g i:=by simp[List.getD,hi]
theorem L4_1(c:za){p:Nat}(hp:p<c.qq.length):zfV (QL4 c) (5+p)=Clo.c120 c (p:Int):=by
 have h:(ziN c).length=5:=rfl
 unfold zfV QL4 QL3 QL2 QL1
 rw[zax,if_pos (by simp;omega),zax,if_pos (by simp;omega),zax,if_pos (by simp;omega),zax,if_neg (by omega),h,Nat.add_sub_cancel_left,zeq _ hp]
theorem ztJ(c:za)(n:Nat):(QL1 c n).length=5+n:=by simp[QL1,ziN];omega
theorem zpR(c:za)(n:Nat):(QL2 c n).length=5+c.qq.length+n:=by simp[QL2,ztJ]
theorem zpS(c:za)(n:Nat):(QL3 c n).length=5+c.qq.length+c.qw.length+n:=by simp[QL3,zpR]
theorem L4_2(c:za){p:Nat}(hp:p<c.qw.length):zfV (QL4 c) (5+c.qq.length+p)=Clo.c122 c (p:Int):=by
 unfold zfV QL4
 rw[zax,if_pos (by rw[zpS];omega)]
 unfold QL3
 rw[zax,if_pos (by rw[zpR];omega)]
 unfold QL2
 rw[zax,if_neg (by rw[ztJ];omega),ztJ,Nat.add_sub_cancel_left,zeq _ hp]
theorem L4_3(c:za){p:Nat}(hp:p<c.qp.length):zfV (QL4 c) (5+c.qq.length+c.qw.length+p)=Clo.c124 c (p:Int):=by
 unfold zfV QL4
 rw[zax,if_pos (by rw[zpS];omega)]
 unfold QL3
 rw[zax,if_neg (by rw[zpR];omega),zpR,Nat.add_sub_cancel_left,zeq _ hp]
theorem L4_4(c:za):zfV (QL4 c) (5+c.qq.length+c.qw.length+c.qp.length)=Clo.c126 c:=by
 unfold zfV QL4
 rw[zax,if_neg (by rw[zpS];omega),zpS,Nat.sub_self]
 rfl
noncomputable def fC(c:za)(i:Nat):Option (Int × za0):=zsQ c (.l0 (QL4 c) (i:Int))
theorem zd1{c:za}(hc:zcr c){i:Nat}{x:Clo}(hi:i<(QL4 c).length)(hx:zfV (QL4 c) i=x){b:Bool}{r:zx}(h1:ask x=some r)(h2:zcW r=b)(h3:b=false->r.e ≠ 0):(b=false->zc6 (fC c i) false)/\(b=true->fC c i=fC c (i+1)):=by
 have hB:B47=140737488351232:=rfl
 have hpl:=hc.parts
 have hcl:=hc.qp
 have hhl:=hc.chans
 have hl:=zyM c
 unfold fC
 rw[zsR]
 simp only[zu9,tnC,zY hi,zo hi,hx,h1,cnT,zdf,h2,zj i (by omega),id,Tree.run,qY]
 cases b with
 | true=>exact⟨fun h=>by(cases h),fun _=>rfl⟩
 | false=>
  refine⟨fun _=>⟨_,rfl,?_⟩,fun h=>by cases h⟩
  simpa using h3 rfl
theorem zfx{b:Bool}{e:Int}{w:za0}(he:e ≠ 0):b=false->(zag b e w).e ≠ 0:=fun h=>by subst h;exact he
theorem zDn{c:za}(hc:zcr c){kb:Bool}(hk:zlt c=true->zkn c=some kb):zc6 (zdK c) (zlt c&&kb):=by
 have hl:=zyM c
 have e1:=zqt c.qp.length 1 4
 have e2:=zqt c.qq.length 1 8
 have e3:decide ((c.qw.length:Int)<=16)=decide (c.qw.length<=16):=by rw[Bool.eq_iff_iff,qG,qG];omega
 have s0:=zd1 hc (i:=0) (by omega) (zyL c (by omega)) (b:=decide (1<=c.qr)&&decide (c.qr<=1024)) (r:=zag (za1 c.qr 1 1024) 400 nowhere) rfl (by rw[zbG (by decide),zfJ]) (by
  rw[zfJ];exact zfx (by decide))
 have s1:=zd1 hc (i:=1) (by omega) (zyL c (by omega)) (b:=decide (1<=c.major)&&decide (c.major<=16384)) (r:=zag (za1 c.major 1 16384) 401 nowhere) rfl (by rw[zbG (by decide),zfJ]) (by
  rw[zfJ];exact zfx (by decide))
 have s2:=zd1 hc (i:=2) (by omega) (zyL c (by omega)) (b:=decide (1<=c.qp.length)&&decide (c.qp.length<=4)) (r:=zag (za1 c.qp.length 1 4) 402 nowhere) rfl (by rw[zbG (by decide),zfJ];exact e1) (by
  rw[zfJ,← e1];exact zfx (by decide))
 have s3:=zd1 hc (i:=3) (by omega) (zyL c (by omega)) (b:=decide (1<=c.qq.length)&&decide (c.qq.length<=8)) (r:=zag (za1 c.qq.length 1 8) 403 nowhere) rfl (by rw[zbG (by decide),zfJ];exact e2) (by
  rw[zfJ,← e2];exact zfx (by decide))
 have s4:=zd1 hc (i:=4) (by omega) (zyL c (by omega)) (b:=decide (c.qw.length<=16)) (r:=zag (decide ((c.qw.length:Int)<=16)) 404 nowhere) rfl (by rw[zbG (by decide),e3]) (by
  rw[e3];exact zfx (by decide))
 have hend:zlt c=true->zc6 (fC c (5+c.qq.length+c.qw.length+c.qp.length)) kb:=fun hpre=>by
  have a1':zkn c=some kb:=hk hpre
  have b1:zq6 c=some (zag kb 423 nowhere):=by
   unfold zq6
   dsimp only [Tree.run0,Tree.run]
   simp only[Tree.run,a1',qY]
  have st:=zd1 hc (i:=5+c.qq.length+c.qw.length+c.qp.length) (by omega) (L4_4 c) (b:=kb) b1 (zbG (by decide)) (zfx (by decide))
  cases hkb:kb with
  | false=>exact st.1 hkb
  | true=>
   rw[st.2 hkb]
   unfold fC
   rw[zsR]
   simp only[zu9,z8 (show(QL4 c).length<=5+c.qq.length+c.qw.length+c.qp.length+1 by omega),cnF,id,Tree.run,qY]
   exact⟨_,rfl,rfl⟩
 have h8:zcp c=true->zdN c=true->zcU c=true->zc6 (fC c (5+c.qq.length+c.qw.length)) (zco c&&kb):=fun hw hp hh=>by
  refine zdx zc6 (n:=c.qp.length) (f:=fun k=>fC c (5+c.qq.length+c.qw.length+k)) (q:=fun k=>!(ziE c k)) (e:=kb) (fun k hkk=>?_) (fun hq=>?_)
  . obtain ⟨r,k1,k3,k4⟩:=zG9 hc hkk
    have b1:zq4 c k=some r:=by
     unfold zq4
     dsimp only [Tree.run0,Tree.run]
     simp only[Tree.run,k1,qY]
    have st:=zd1 hc (by omega) (L4_3 c hkk) (b:=ziE c k) b1 (zpX k3 k4) k4
    exact⟨fun h=>st.1 (by simpa using h),fun h=>st.2 (by simpa using h)⟩
  . have hco:zco c=true:=by
     unfold zco
     rw[any_f.2 hq];rfl
    exact hend (by unfold zlt;rw[hw,hp,hh,hco];rfl)
 have h4:zcp c=true->zdN c=true->zc6 (fC c (5+c.qq.length)) (zcU c&&(zco c&&kb)):=fun hw hp=>by
  have hfew:=zug hw (zj8 hp)
  refine zdx zc6 (n:=c.qw.length) (f:=fun k=>fC c (5+c.qq.length+k)) (q:=fun k=>!(zgc c k)) (e:=zco c&&kb) (fun k hkk=>?_) (fun hq=>?_)
  . obtain ⟨r,k1,k3,k4⟩:=zxz hfew hkk
    have b1:zq2 c k=some r:=by
     unfold zq2
     dsimp only [Tree.run0,Tree.run]
     simp only[Tree.run,k1,qY]
    have st:=zd1 hc (by omega) (L4_2 c hkk) (b:=zgc c k) b1 (zpX k3 k4) k4
    exact⟨fun h=>st.1 (by simpa using h),fun h=>st.2 (by simpa using h)⟩
  . have hco:zcU c=true:=by
     unfold zcU
     rw[any_f.2 hq];rfl
    exact h8 hw hp hco
 have h0:zcp c=true->zc6 (fC c 5) (zdN c&&(zcU c&&(zco c&&kb))):=fun hw=>by
  refine zdx zc6 (n:=c.qq.length) (f:=fun k=>fC c (5+k)) (q:=fun k=>!(zev c k)) (e:=zcU c&&(zco c&&kb)) (fun k hkk=>?_) (fun hq=>?_)
  . obtain ⟨r,k1,k3,k4⟩:=zsw hc hkk
    have b1:zq0 c k=some r:=by
     unfold zq0
     dsimp only [Tree.run0,Tree.run]
     simp only[Tree.run,k1,qY]
    have st:=zd1 hc (by omega) (L4_1 c hkk) (b:=zev c k) b1 (zpX k3 k4) k4
    exact⟨fun h=>st.1 (by simpa using h),fun h=>st.2 (by simpa using h)⟩
  . have hco:zdN c=true:=by
     unfold zdN
     rw[any_f.2 hq];rfl
    exact h4 hw hco
 have hgo:zc6 (fC c 0) (zcp c&&(zdN c&&(zcU c&&(zco c&&kb)))):=by
  cases hw:zcp c with
  | true=>
   have hw':=hw
   simp only[zcp,qH]at hw'
   obtain ⟨⟨a1,a2⟩,⟨b1,b2⟩,⟨c1,c2⟩,⟨d1,d2⟩,d3⟩:=hw'
   rw[s0.2 (by rw[a1,a2];rfl),s1.2 (by rw[b1,b2];rfl),s2.2 (by rw[c1,c2];rfl),s3.2 (by rw[d1,d2];rfl),s4.2 d3]
   exact h0 hw
  | false=>
   show zc6 (fC c 0) false
   unfold zcp at hw
   revert hw
   cases ha:(decide (1<=c.qr)&&decide (c.qr<=1024))with
   | false=>exact fun _=>s0.1 ha
   | true=>
   rw[s0.2 ha]
   cases hb:(decide (1<=c.major)&&decide (c.major<=16384))with
   | false=>exact fun _=>s1.1 hb
   | true=>
   rw[s1.2 hb]
   cases hcc:(decide (1<=c.qp.length)&&decide (c.qp.length<=4))with
   | false=>exact fun _=>s2.1 hcc
   | true=>
   rw[s2.2 hcc]
   cases hd:(decide (1<=c.qq.length)&&decide (c.qq.length<=8))with
   | false=>exact fun _=>s3.1 hd
   | true=>
   rw[s3.2 hd]
   cases he:decide (c.qw.length<=16)with
   | false=>exact fun _=>s4.1 he
   | true=>intro h;cases h
 unfold zdK zER
 dsimp only [Tree.run0,Tree.run]
 simp only[Tree.run,zqJ hc,qY]
 unfold zlt
 have hgo':zc6 (zsQ c (.l0 (QL4 c) 0)) _:=hgo
 simpa [Bool.and_assoc]using hgo'
theorem zOY(a:Int):bop .quo .i64 a 16=i64.wrap (a.tdiv 16):=by kernel_rfl
theorem zO0(a:Int):bop .rem .i64 a 16=a.tmod 16:=by kernel_rfl
theorem zch(a:Nat)(h:a<4611686018427387904):bop .quo .i64 (a:Int) 16=((a / 16:Nat):Int):=by
 rw[zOY,show(a:Int).tdiv 16=((a / 16:Nat):Int)from by rw[Int.tdiv_eq_ediv_of_nonneg (by omega)];omega]
 exact zam _ (by omega) (by omega)
theorem zhi(a:Nat):bop .rem .i64 (a:Int) 16=((a % 16:Nat):Int):=by
 rw[zO0,Int.tmod_eq_emod_of_nonneg (by omega)];omega
theorem zz(n:Int)(m:Nat)(h:n=m)(hm:m<4611686018427387904):i64.wrap n=(m:Int):=by subst h;exact zam _ (by omega) (by omega)
structure zbZ(x:zI):Prop where
 kind:x.kind=1 ∨ x.kind=2
 qx:1<=x.qx/\x.qx<=16
 qy:(x.kind=2->1<=x.qy/\x.qy<=8)/\(x.kind=1->x.qy=0)
theorem zDm{c:za}{h:Nat}(hb:zgc c h=true):zbZ (Ch c h)/\zgV c h c.qq.length=1/\1<=zfd c h c.qq.length/\zfd c h c.qq.length<=4:=by
 simp only[zgc,qH,qG,beq_iff_eq]at hb
 obtain ⟨⟨⟨⟨k1,k2⟩,k3,k4⟩,k5⟩,k6,k7,k8⟩:=hb
 refine⟨⟨by omega,⟨k3,k4⟩,fun hk=>?_,fun hk=>?_⟩,by omega,by omega,?_⟩
 . rw[show((Ch c h).kind==2)=true by simpa using hk]at k5
   simpa using k5
 . rw[show((Ch c h).kind==2)=false by simp;omega]at k5
   simpa using k5
 . cases hk:((Ch c h).kind==2)with
   | true=>rw[hk]at k8;simp only[cnT]at k8;omega
   | false=>rw[hk]at k8;simp only[cnF]at k8;omega
noncomputable def body(x:zI):Nat:=if x.kind=1 then x.qx.toNat else x.qy.toNat*(1+x.qx.toNat)
noncomputable def stg(x:zI):Nat:=if x.kind=1 then 2+x.qx.toNat else 1+body x
noncomputable def prt(x:zI):Nat:=3+body x
theorem zg6{x:zI}(h:zbZ x):1<=body x/\body x<=136:=by
 have hw:=h.qx
 unfold body
 split
 . omega
 . rename_i hk
   have hk2:x.kind=2:=by rcases h.kind with h | h;exact absurd h hk;exact h
   obtain ⟨d1,d2⟩:=h.qy.1 hk2
   have h1:1<=x.qy.toNat:=by omega
   have h2:x.qy.toNat<=8:=by omega
   have h3:1+x.qx.toNat<=17:=by omega
   exact⟨Nat.mul_pos h1 (by omega),by have:=Nat.mul_le_mul h2 h3;omega⟩
theorem zkC{x:zI}(h:zbZ x):1<=stg x/\stg x<=137:=by
 have:=zg6 h
 have hw:=h.qx
 unfold stg
 split <;> omega
theorem zqI{x:zI}(h:zbZ x):4<=prt x/\prt x<=139:=by have:=zg6 h;unfold prt;omega
theorem zvI{a b:Int}(ha:0<=a)(hb:0<=b):a*b=((a.toNat*b.toNat:Nat):Int):=by
 rw[Int.natCast_mul,Int.toNat_of_nonneg ha,Int.toNat_of_nonneg hb]
theorem zzF{x:zI}(h:zbZ x):zmV x=(body x:Int):=by
 have hl:=zg6 h
 obtain ⟨w1,w2⟩:=h.qx
 unfold zmV
 dsimp only [Tree.val]
 rw[decide_eq_false (by omega),decide_eq_false (by omega),cnF,cnF]
 rcases h.kind with hk | hk
 . rw[hk]
   simp only[qI,cnT,id]
   unfold body;rw[if_pos hk,Int.toNat_of_nonneg (by omega)]
 . obtain ⟨d1,d2⟩:=h.qy.1 hk
   have hb:body x=x.qy.toNat*(1+x.qx.toNat):=by unfold body;rw[if_neg (by omega)]
   have e1:i64.wrap (1+x.qx)=((1+x.qx.toNat:Nat):Int):=zz _ _ (by omega) (by omega)
   rw[hk,decide_eq_true (by omega),decide_eq_true (by omega),e1]
   have e2:i64.wrap (x.qy*((1+x.qx.toNat:Nat):Int))=(body x:Int):=zz _ _ (by rw[zvI (by omega) (by omega),hb,tnC]) (by omega)
   rw[e2];rfl
theorem zEh{x:zI}(h:zbZ x):zo9 x=(stg x:Int):=by
 have hl:=zg6 h
 obtain ⟨w1,w2⟩:=h.qx
 unfold zo9
 dsimp only [Tree.val]
 rw[zzF h,show((body x:Int)==0)=false by simp;omega,cnF]
 rcases h.kind with hk | hk
 . rw[hk]
   simp only[qI,cnT,id]
   rw[zz _ (2+x.qx.toNat) (by omega) (by omega)]
   unfold stg;rw[if_pos hk]
 . rw[hk,zz (1+(body x:Int)) (1+body x) (by omega) (by omega)]
   unfold stg;rw[if_neg (by omega)];rfl
theorem zBB{x:zI}(h:zbZ x):zo8 x=(prt x:Int):=by
 have hl:=zg6 h
 unfold zo8
 dsimp only [Tree.val]
 rw[zzF h,show((body x:Int)==0)=false by simp;omega,cnF,zz (3+(body x:Int)) (3+body x) (by omega) (by omega)]
 rfl
theorem zri{x:zI}(h:zbZ x):zqQ x=(stg x:Int):=by
 have hl:=zg6 h
 obtain ⟨w1,w2⟩:=h.qx
 unfold zqQ
 dsimp only [Tree.val]
 rw[decide_eq_false (by omega),decide_eq_false (by omega),cnF,cnF]
 rcases h.kind with hk | hk
 . rw[hk]
   simp only[qI,cnT,id]
   rw[zz _ (2+x.qx.toNat) (by omega) (by omega)]
   unfold stg;rw[if_pos hk]
 . obtain ⟨d1,d2⟩:=h.qy.1 hk
   have hb:body x=x.qy.toNat*(1+x.qx.toNat):=by unfold body;rw[if_neg (by omega)]
   have e1:i64.wrap (1+x.qx)=((1+x.qx.toNat:Nat):Int):=zz _ _ (by omega) (by omega)
   have e2:i64.wrap (x.qy*((1+x.qx.toNat:Nat):Int))=(body x:Int):=zz _ _ (by rw[zvI (by omega) (by omega),hb,tnC]) (by omega)
   rw[hk,decide_eq_true (by omega),decide_eq_true (by omega),e1,e2,zz (1+(body x:Int)) (1+body x) (by omega) (by omega)]
   unfold stg;rw[if_neg (by omega)];rfl
theorem zJJ{x:zI}(h:zbZ x):zB1 x=(prt x:Int):=by
 have hl:=zkC h
 obtain ⟨w1,w2⟩:=h.qx
 unfold zB1
 dsimp only [Tree.val]
 rw[zri h,show((stg x:Int)==0)=false by simp;omega,cnF]
 rcases h.kind with hk | hk
 . rw[hk]
   simp only[qI,cnT,id]
   rw[zz ((stg x:Int)+1) (stg x+1) (by omega) (by omega)]
   have:stg x+1=prt x:=by unfold stg prt body;rw[if_pos hk,if_pos hk];omega
   rw[this]
 . rw[hk,zz ((stg x:Int)+2) (stg x+2) (by omega) (by omega)]
   have:stg x+2=prt x:=by unfold stg prt;rw[if_neg (by omega)];omega
   rw[this];rfl
structure zoe(g:Region):Prop where
 page:0<=g.page/\g.page<=255
 qc:1<=g.qc/\g.qc<=256-g.page
noncomputable def zeG(x:zf)(t i:Nat):Bool:=decide ((zi x.qe i).page.toNat / 16<=t)&&decide (t<=((zi x.qe i).page.toNat+(zi x.qe i).qc.toNat-1) / 16)
noncomputable def zC(x:zf)(t:Nat):Bool:=(List.range x.qe.length).any (zeG x t)
noncomputable def zbv(x:zf):Nat:=cnt (zC x) 16
theorem zyt{x:zf}(hx:x.qe.length<=8)(hg : ∀ i,i<x.qe.length->zoe (zi x.qe i))(t:Nat):zkm x t=some (zC x t):=by
 have h:=zao (n:=x.qe.length) (f:=fun i=>zmY x t (.l0 (i:Int))) (q:=zeG x t) (r:=some true) (e:=some false) (fun i hi=>by
  have ho:=hg i hi
  obtain ⟨p1,p2⟩:=ho.page
  obtain ⟨p3,p4⟩:=ho.qc
  rw[zpb]
  have e1:bop .quo .i64 (zi x.qe i).page 16=(((zi x.qe i).page.toNat / 16:Nat):Int):=by
   rw[← zch _ (by omega),Int.toNat_of_nonneg p1]
  have e2:i64.wrap ((zi x.qe i).page+(zi x.qe i).qc)=(((zi x.qe i).page.toNat+(zi x.qe i).qc.toNat:Nat):Int):=zz _ _ (by omega) (by omega)
  have e3:i64.wrap ((((zi x.qe i).page.toNat+(zi x.qe i).qc.toNat:Nat):Int)-1)=(((zi x.qe i).page.toNat+(zi x.qe i).qc.toNat-1:Nat):Int):=zz _ _ (by omega) (by omega)
  simp only[zp1,tnC,zY hi,zo hi,cnT,e1,e2,e3,zch _ (show(zi x.qe i).page.toNat+(zi x.qe i).qc.toNat-1<4611686018427387904 by omega),zj i (by omega),id,zfb,Tree.run,qY]
  congr 1
  unfold zeG
  rw[Bool.eq_iff_iff];simp only[qH,qG];omega) (by
  rw[zpb]
  simp only[zp1,z8 (qD),cnF,id,Tree.run,qY])
 exact Eq.trans (show _=zmY x t (.l0 0)from rfl) (Eq.trans h (zmU _))
theorem zbl(b:Nat->Bool){n j:Nat}(hn:n<16)(hj:j<16):zbJ (List.set ([b 0,b 1,b 2,b 3,b 4,b 5,b 6,b 7,b 8,b 9,b 10,b 11,b 12,b 13,b 14,b 15]:List Bool) n true) j=(decide (j=n) || b j):=by
 have e:([b 0,b 1,b 2,b 3,b 4,b 5,b 6,b 7,b 8,b 9,b 10,b 11,b 12,b 13,b 14,b 15]:List Bool)=(List.range 16).map b:=rfl
 rw[e]
 simp only[zbJ,List.getD,List.getElem?_set,List.length_map,List.length_range,List.getElem?_map,List.getElem?_range hj]
 by_cases h:n=j
 . subst h;simp[hj]
 . rw[if_neg h,decide_eq_false (fun e=>h e.symm)];simp
theorem zzA(b:Nat->Bool){j:Nat}(hj:j<16):zbJ ([b 0,b 1,b 2,b 3,b 4,b 5,b 6,b 7,b 8,b 9,b 10,b 11,b 12,b 13,b 14,b 15]:List Bool) j=b j:=by
 have e:([b 0,b 1,b 2,b 3,b 4,b 5,b 6,b 7,b 8,b 9,b 10,b 11,b 12,b 13,b 14,b 15]:List Bool)=(List.range 16).map b:=rfl
 rw[e]
 simp[zbJ,List.getD,hj]
noncomputable def T0(x:zf)(i:Nat)(b:Nat->Bool):Option Int:=zlf x (.l0 (i:Int) (b 0) (b 1) (b 2) (b 3) (b 4) (b 5) (b 6) (b 7) (b 8) (b 9) (b 10) (b 11) (b 12) (b 13) (b 14) (b 15))
noncomputable def T4(x:zf)(i k:Nat)(b:Nat->Bool):Option Int:=zlf x (.l4 (i:Int) (zi x.qe i).qc (k:Int) (b 0) (b 1) (b 2) (b 3) (b 4) (b 5) (b 6) (b 7) (b 8) (b 9) (b 10) (b 11) (b 12) (b 13) (b 14) (b 15) (zi x.qe i).page (zi x.qe i).qc (zi x.qe i).frame (zi x.qe i).qv)
noncomputable def T8(x:zf)(n:Int)(b:Nat->Bool)(t:Nat):Option Int:=zlf x (.l8 n (b 0) (b 1) (b 2) (b 3) (b 4) (b 5) (b 6) (b 7) (b 8) (b 9) (b 10) (b 11) (b 12) (b 13) (b 14) (b 15) (t:Int))
theorem zC6{x:zf}{i k:Nat}(ho:zoe (zi x.qe i))(hk:(k:Int)<(zi x.qe i).qc)(b:Nat->Bool):T4 x i k b=T4 x i (k+1) fun j=>decide (j=((zi x.qe i).page.toNat+k) / 16) || b j:=by
 obtain ⟨p1,p2⟩:=ho.page
 obtain ⟨p3,p4⟩:=ho.qc
 have e1:i64.wrap ((zi x.qe i).page+(k:Int))=(((zi x.qe i).page.toNat+k:Nat):Int):=zz _ _ (by omega) (by omega)
 have hn:((zi x.qe i).page.toNat+k) / 16<16:=by omega
 unfold T4
 rw[zeA]
 simp only[ziD,decide_eq_true hk,cnT,e1,zch _ (show(zi x.qe i).page.toNat+k<4611686018427387904 by omega),tnC,zo hn,zj k (by omega),id,Tree.run,qY]
 rw[zbl b hn (show 0<16 by omega),zbl b hn (show 1<16 by omega),zbl b hn (show 2<16 by omega),zbl b hn (show 3<16 by omega),zbl b hn (show 4<16 by omega),zbl b hn (show 5<16 by omega),zbl b hn (show 6<16 by omega),zbl b hn (show 7<16 by omega),zbl b hn (show 8<16 by omega),zbl b hn (show 9<16 by omega),zbl b hn (show 10<16 by omega),zbl b hn (show 11<16 by omega),zbl b hn (show 12<16 by omega),zbl b hn (show 13<16 by omega),zbl b hn (show 14<16 by omega),zbl b hn (show 15<16 by omega)]
theorem ziA(q:Nat->Bool)(n:Nat):(List.range (n+1)).any q=((List.range n).any q || q n):=by
 rw[List.range_succ,List.any_append];simp
theorem zGQ{x:zf}{i:Nat}(hi:i<4611686018427387904)(ho:zoe (zi x.qe i))(b:Nat->Bool):T4 x i 0 b=T0 x (i+1) fun j=>b j || zeG x j i:=by
 obtain ⟨p1,p2⟩:=ho.page
 obtain ⟨p3,p4⟩:=ho.qc
 have h:=zK (n:=(zi x.qe i).qc.toNat) (f:=fun k b=>T4 x i k b) (S:=fun k j=>b j || (List.range k).any fun k'=>decide (j=((zi x.qe i).page.toNat+k') / 16)) (fun k hk=>by
  rw[zC6 ho (by omega)]
  congr 1
  funext j
  rw[ziA]
  cases b j <;> cases ((List.range k).any fun k'=>decide (j=((zi x.qe i).page.toNat+k') / 16)) <;> cases decide (j=((zi x.qe i).page.toNat+k) / 16) <;> rfl)
 simp only[List.range_zero,List.any_nil,Bool.or_false]at h
 refine h.trans ?_
 have hb:(fun j=>b j || (List.range (zi x.qe i).qc.toNat).any fun k'=>decide (j=((zi x.qe i).page.toNat+k') / 16))=fun j=>b j || zeG x j i:=by
  funext j
  congr 1
  rw[Bool.eq_iff_iff,any_t]
  simp only[zeG,qH,qG]
  constructor
  . rintro ⟨k,hk,rfl⟩
    exact⟨Nat.div_le_div_right (by omega),Nat.div_le_div_right (by omega)⟩
  . rintro ⟨h1,h2⟩
    by_cases hc:16*j<=(zi x.qe i).page.toNat
    . exact⟨0,by omega,by omega⟩
    . exact⟨16*j-(zi x.qe i).page.toNat,by omega,by omega⟩
 rw[hb]
 unfold T4 T0
 rw[zeA]
 have e1:decide ((((zi x.qe i).qc.toNat:Nat):Int)<(zi x.qe i).qc)=false:=decide_eq_false (by omega)
 simp only[ziD,e1,cnF,zj i hi,id,Tree.run,qY]
theorem zGP{x:zf}(hx:x.qe.length<=8)(hg : ∀ i,i<x.qe.length->zoe (zi x.qe i)):T0 x 0 (fun _=>false)=T0 x x.qe.length (zC x):=by
 have h:=zK (n:=x.qe.length) (f:=fun i b=>T0 x i b) (S:=fun i j=>(List.range i).any (zeG x j)) (fun i hi=>by
  have e:T0 x i (fun j=>(List.range i).any (zeG x j))=T4 x i 0 (fun j=>(List.range i).any (zeG x j)):=by
   unfold T0 T4
   rw[zeA]
   simp only[ziD,zY hi,zo hi,cnT,tnC,id,Tree.run,qY]
   rfl
  rw[e,zGQ (by omega) (hg i hi)]
  congr 1
  funext j
  rw[ziA])
 exact h
theorem zCr{x:zf}(hx:x.qe.length<=8)(hg : ∀ i,i<x.qe.length->zoe (zi x.qe i)):zwl x=some (zbv x:Int):=by
 have h8:=zK (n:=16) (f:=fun t (n:Nat)=>T8 x (n:Int) (zC x) t) (S:=fun t=>cnt (zC x) t) (fun t ht=>by
  have hl:=zbS (zC x) t
  unfold T8
  have e35 : ∀ n:Int,zlf x (.l35 n (zC x 0) (zC x 1) (zC x 2) (zC x 3) (zC x 4) (zC x 5) (zC x 6) (zC x 7) (zC x 8) (zC x 9) (zC x 10) (zC x 11) (zC x 12) (zC x 13) (zC x 14) (zC x 15) (t:Int))=zlf x (.l8 n (zC x 0) (zC x 1) (zC x 2) (zC x 3) (zC x 4) (zC x 5) (zC x 6) (zC x 7) (zC x 8) (zC x 9) (zC x 10) (zC x 11) (zC x 12) (zC x 13) (zC x 14) (zC x 15) ((t+1:Nat):Int)):=fun n=>by
   rw[zeA]
   simp only[ziD,zj t (by omega),id,Tree.run,qY]
  rw[zeA]
  simp only[ziD,show decide ((t:Int)<16)=true from decide_eq_true (by omega),zo ht,cnT,tnC,zzA (zC x) ht,zj (cnt (zC x) t) (by omega),id,Tree.run,qY]
  rw[e35,e35,zbN]
  cases zC x t <;> rfl)
 have hT:=zGP hx hg
 refine Eq.trans (show _=T0 x 0 (fun _=>false)from rfl) (Eq.trans hT ?_)
 have e:T0 x x.qe.length (zC x)=T8 x 0 (zC x) 0:=by
  unfold T0 T8
  rw[zeA]
  simp only[ziD,z8 (qD),cnF,id,Tree.run,qY]
  rfl
 rw[e]
 refine Eq.trans h8 ?_
 unfold T8
 rw[zeA]
 simp only[ziD,show decide (((16:Nat):Int)<16)=false from rfl,cnF,id,Tree.run,qY]
 rfl
noncomputable def zdC(q:Nat->Nat->Bool)(p n:Nat):List LayoutEnd:=((List.range n).filter (q p)).map fun i:Nat=>(⟨(p:Int),(i:Int)⟩:LayoutEnd)
noncomputable def zdT(c:za)(q:Nat->Nat->Bool):Nat->List LayoutEnd
 | 0=>[]
 | n+1=>zdT c q n++zdC q n (zaa c n)
theorem zfE(q:Nat->Nat->Bool)(p n:Nat):zdC q p (n+1)=zdC q p n++cond (q p n) [⟨(p:Int),(n:Int)⟩] []:=by
 unfold zdC
 rw[List.range_succ,List.filter_append,List.map_append]
 cases h:q p n <;> simp[h]
theorem zfe(q:Nat->Nat->Bool)(p:Nat) : ∀ n,(zdC q p n).length=cnt (q p) n
 | 0=>rfl
 | n+1=>by rw[zfE,List.length_append,zfe q p n,zbN];cases q p n <;> rfl
theorem zd9(c:za)(q:Nat->Nat->Bool) : ∀ n,(zdT c q n).length=tot (fun p=>cnt (q p) (zaa c p)) n
 | 0=>rfl
 | n+1=>by rw[zdT,List.length_append,zd9 c q n,zfe];rfl
noncomputable def zoa(c:za)(h:Int):List LayoutEnd:=zdT c (zbW c h) c.qq.length
noncomputable def zHk(c:za)(h:Int):List LayoutEnd:=zdT c (zaY c h) c.qq.length
theorem zvA{c:za}(hw:Few c)(h:Int):zpy c h=some (zoa c h,zHk c h):=by
 have h8:=hw.parts
 have inner : ∀ q,q<c.qq.length->∀ s d:List LayoutEnd,s.length<=64->d.length<=64->zhK c h (.l4 (q:Int) (q:Int) (P c q).qt ((P c q).qt.length) 0 s d)=zhK c h (.l0 ((q+1:Nat):Int) (s++zdC (zbW c h) q (zaa c q)) (d++zdC (zaY c h) q (zaa c q))):=fun q hq s d hs hd=>by
  have hp8:=hw.qt q hq
  have:=zK (n:=zaa c q) (f:=fun k (x:List LayoutEnd × List LayoutEnd)=>zhK c h (.l4 (q:Int) (q:Int) (P c q).qt ((P c q).qt.length) (k:Int) x.1 x.2)) (S:=fun k=>(s++zdC (zbW c h) q k,d++zdC (zaY c h) q k)) (fun k hk=>by
   have hk':k<(P c q).qt.length:=hk
   have l1:=zbS (zbW c h q) k
   have l2:=zbS (zaY c h q) k
   have e1:=zfe (zbW c h) q k
   have e2:=zfe (zaY c h) q k
   rw[zgL]
   have b1:leB (((s++zdC (zbW c h) q k).length+([(⟨(q:Int),(k:Int)⟩:LayoutEnd)]:List LayoutEnd).length)*16) 140737488355328=true:=zaZ (by simp only[List.length_append,qO];omega)
   have b2:leB (((d++zdC (zaY c h) q k).length+([(⟨(q:Int),(k:Int)⟩:LayoutEnd)]:List LayoutEnd).length)*16) 140737488355328=true:=zaZ (by simp only[List.length_append,qO];omega)
   simp only[zl4,tnC,cnT,zY hk',zo hk',b1,b2,id,Tree.run,qY]
   have e23 : ∀ a b:List LayoutEnd,zhK c h (.l23 (q:Int) (q:Int) (P c q).qt ((P c q).qt.length) (k:Int) a b)=zhK c h (.l4 (q:Int) (q:Int) (P c q).qt ((P c q).qt.length) ((k+1:Nat):Int) a b):=fun a b=>by
    rw[zgL]
    simp only[zl4,zj k (by omega),id,Tree.run,qY]
   rw[e23,e23,e23,zfE,zfE]
   unfold zbW zaY
   show cond (!((Pt c q k).ql==h)) _ (cond (Pt c q k).qb _ _)=_
   cases (Pt c q k).ql==h <;> cases (Pt c q k).qb <;> simp)
  dsimp only at this
  rw[show zdC (zbW c h) q 0=[]from rfl,show zdC (zaY c h) q 0=[]from rfl,List.append_nil,List.append_nil]at this
  refine Eq.trans this ?_
  rw[zgL]
  have hi':decide ((zaa c q:Int)<((P c q).qt.length:Int))=false:=z8 (qD)
  simp only[zl4,hi',cnF,zj q (by omega),id,Tree.run,qY]
 have outer:=zK (n:=c.qq.length) (f:=fun q (x:List LayoutEnd × List LayoutEnd)=>zhK c h (.l0 (q:Int) x.1 x.2)) (S:=fun q=>(zdT c (zbW c h) q,zdT c (zaY c h) q)) (fun q hq=>by
  rw[zgL]
  simp only[zl4,zY hq,zo hq,cnT,tnC,id,Tree.run,qY]
  have s1:=zlN hw h (n:=q) (by omega)
  have s2:=zlA hw h (n:=q) (by omega)
  exact inner q hq _ _ (by rw[zd9];exact s1) (by rw[zd9];exact s2))
 refine Eq.trans (show _=zhK c h (.l0 0 [] [])from rfl) (Eq.trans outer ?_)
 rw[zgL]
 simp only[zl4,z8 (qD),cnF,id,Tree.run,qY]
 rfl
theorem ztt(c:za)(h:Int):(zoa c h).length=zgV c h c.qq.length:=zd9 c _ _
theorem zrQ(c:za)(h:Int):(zHk c h).length=zfd c h c.qq.length:=zd9 c _ _
structure zu2(c:za)(g:Region):Prop where
 ok:zoe g
 frame:0<=g.frame
 fits:g.frame+g.qc<=c.qr
structure zaz(c:za):Prop where
 few:Few c
 qr:1<=c.qr/\c.qr<=1024
 least:1<=c.qq.length
 chans:c.qw.length<=16
 nregs : ∀ p,p<c.qq.length->1<=zaI c p/\zaI c p<=8
 qz : ∀ p k,p<c.qq.length->k<zaI c p->zu2 c (Rg c p k)
 regb : ∀ p k,p<c.qq.length->k<zaI c p->zhx c p k=true
 port : ∀ p k,p<c.qq.length->k<zaa c p->0<=(Pt c p k).ql/\(Pt c p k).ql<c.qw.length
 chan : ∀ h,h<c.qw.length->zbZ (Ch c h)/\zgV c h c.qq.length=1/\1<=zfd c h c.qq.length/\zfd c h c.qq.length<=4
 part : ∀ p,p<c.qq.length->zev c p=true
theorem zBN{c:za}(hf:1<=c.qr/\c.qr<=1024){g:Region}(h:zgy c g=true)(hg:I64 g.frame):zu2 c g:=by
 unfold zgy at h
 unfold I64 at hg
 simp only[qH,qG]at h
 obtain ⟨⟨⟨⟨⟨h1,h2⟩,h3,h4⟩,h5⟩,h6⟩,h7,h8⟩:=h
 rw[zam _ (by omega) (by omega)]at h4 h6
 exact⟨⟨⟨h1,h2⟩,⟨h3,h4⟩⟩,h5,by omega⟩
theorem zqs{c:za}(hc:zcr c)(h:zlt c=true):zaz c:=by
 simp only[zlt,qH]at h
 obtain ⟨hw,hp,hh,hk⟩:=h
 have hp':=zj8 hp
 have hh':=zj8 hh
 have hfew:=zug hw hp'
 have hw':=hw
 simp only[zcp,qH,qG]at hw'
 have hf:1<=c.qr/\c.qr<=1024:=hw'.1
 have hpart : ∀ p,p<c.qq.length->_:=fun p hp=>by
  have:=hp' p hp
  simp only[zev,zmf,qH,qG]at this
  exact this
 refine⟨hfew,hf,hw'.2.2.2.1.1,hw'.2.2.2.2,fun p hp=>?_,fun p k hp hk=>?_,fun p k hp hk=>?_,fun p k hp hk=>?_,fun h hh=>zDm (hh' h hh),hp'⟩
 . exact(hpart p hp).1.1.1.1.2.2.2
 . have:=zj8 (hpart p hp).1.1.1.2 k hk
   simp only[zhx,qH]at this
   exact zBN hf this.1.1 (hc.region p k hp hk).1
 . exact zj8 (hpart p hp).1.1.1.2 k hk
 . have h:=any_f.1 (by simpa using (hpart p hp).2) k hk
   unfold zf0 at h
   have hcl:=hw'.2.2.2.2
   rw[zam _ (by omega) (by omega)]at h
   simp only[Bool.not_eq_false',qH,qG]at h
   omega
theorem zA3{c:za}(g:zaz c){p:Nat}(hp:p<c.qq.length):zni (P c p) c.qw.length=some true:=by
 have hn:=(g.nregs p hp).2
 have hq:=g.few.qt p hp
 unfold zaI at hn
 unfold zaa at hq
 have h0:=zK (n:=(P c p).qe.length) (f:=fun i (_:Unit)=>zmX (P c p) c.qw.length (.l0 (i:Int))) (S:=fun _=>()) (fun i hi=>by
  have hr:=g.qz p i hp hi
  obtain ⟨a1,a2⟩:=hr.ok.page
  obtain ⟨a3,a4⟩:=hr.ok.qc
  unfold Rg at a1 a2 a3 a4
  rw[zhj]
  simp only[zjI,tnC,zY hi,zo hi,cnT,Tree.run,qY]
  have ew:i64.wrap (256-(zi (P c p).qe i).page)=256-(zi (P c p).qe i).page:=zam _ (by omega) (by omega)
  rw[decide_eq_false (by omega),decide_eq_false (by omega),decide_eq_false (by omega),decide_eq_false (by rw[ew];omega),zj i (by omega)]
  rfl)
 have h4:=zK (n:=(P c p).qt.length) (f:=fun i (_:Unit)=>zmX (P c p) c.qw.length (.l4 (i:Int))) (S:=fun _=>()) (fun i hi=>by
  obtain ⟨a1,a2⟩:=g.port p i hp hi
  unfold Pt at a1 a2
  rw[zhj]
  simp only[zjI,tnC,zY hi,zo hi,cnT,Tree.run,qY]
  rw[decide_eq_false (by omega),decide_eq_false (by omega),zj i (by omega)]
  rfl)
 unfold zni zz0
 dsimp only [Tree.run0,Tree.run]
 rw[decide_eq_false (by omega),decide_eq_false (by omega),cnF,cnF]
 refine Eq.trans h0 ?_
 rw[zhj]
 simp only[zjI,z8 (qD),cnF,Tree.run,qY]
 refine Eq.trans h4 ?_
 rw[zhj]
 simp only[zjI,z8 (qD),cnF,id,Tree.run,qY]
theorem zzI{c:za}(g:zaz c){p:Nat}(hp:p<c.qq.length):znj c (P c p)=some true:=by
 have hn:=(g.nregs p hp).2
 have hq:=g.few.qt p hp
 unfold zaI at hn
 unfold zaa at hq
 have h0:=zK (n:=(P c p).qe.length) (f:=fun i (_:Unit)=>zm0 c (P c p) (.l0 (i:Int))) (S:=fun _=>()) (fun i hi=>by
  have hr:=g.qz p i hp hi
  obtain ⟨a1,a2⟩:=hr.ok.page
  obtain ⟨a3,a4⟩:=hr.ok.qc
  unfold Rg at a1 a2 a3 a4
  rw[zhl]
  simp only[zjK,tnC,zY hi,zo hi,cnT,Tree.run,qY]
  have ew:i64.wrap (256-(zi (P c p).qe i).page)=256-(zi (P c p).qe i).page:=zam _ (by omega) (by omega)
  rw[decide_eq_false (by omega),decide_eq_false (by omega),decide_eq_false (by omega),decide_eq_false (by rw[ew];omega),zj i (by omega)]
  rfl)
 have h4:=zK (n:=(P c p).qt.length) (f:=fun i (_:Unit)=>zm0 c (P c p) (.l4 (i:Int))) (S:=fun _=>()) (fun i hi=>by
  obtain ⟨a1,a2⟩:=g.port p i hp hi
  unfold Pt at a1 a2
  rw[zhl]
  simp only[zjK,tnC,zY hi,zo hi,cnT,Tree.run,qY]
  rw[decide_eq_false (by omega),decide_eq_false (by omega),zj i (by omega)]
  rfl)
 unfold znj zz5
 dsimp only [Tree.run0,Tree.run]
 rw[decide_eq_false (by omega),decide_eq_false (by omega),cnF,cnF]
 refine Eq.trans h0 ?_
 rw[zhl]
 simp only[zjK,z8 (qD),cnF,Tree.run,qY]
 refine Eq.trans h4 ?_
 rw[zhl]
 simp only[zjK,z8 (qD),cnF,id,Tree.run,qY]
theorem zMv{c:za}(g:zaz c)(hk:0<=c.kernel/\c.kernel<1024):ztp c=some true:=by
 have hn:=g.few.parts
 have hq:=g.chans
 have h0:=zK (n:=c.qq.length) (f:=fun i (_:Unit)=>zs6 c (.l0 (i:Int))) (S:=fun _=>()) (fun i hi=>by
  have k1':znj c (zb c.qq i)=some true:=zzI g hi
  rw[zjl]
  simp only[zol,tnC,zY hi,zo hi,cnT,k1',zj i (by omega),Tree.run,qY]
  rfl)
 have h4:=zK (n:=c.qw.length) (f:=fun i (_:Unit)=>zs6 c (.l4 (i:Int))) (S:=fun _=>()) (fun i hi=>by
  obtain ⟨o,a1,a2,a3⟩:=g.chan i hi
  have k1':zpy c (i:Int)=some _:=zvA g.few (i:Int)
  have hs:=zkC o
  have e1:=zri o
  unfold Ch at e1
  have l1:=ztt c (i:Int)
  have l2:=zrQ c (i:Int)
  have f1:((stg (zw c.qw i):Int)==0)=false:=by have:stg (zw c.qw i)=stg (Ch c i):=rfl;simp;omega
  have f2:((((zoa c (i:Int)).length:Nat):Int)==1)=true:=by rw[l1,a1];rfl
  rw[zjl]
  simp only[zol,tnC,zY hi,zo hi,cnT,k1',e1,f1,f2,cnF,Bool.not_true,Tree.run,qY]
  rw[decide_eq_false (by rw[l2];omega),decide_eq_false (by rw[l2];omega),zj i (by omega)]
  have ok:=o.kind
  have od:=o.qy.2
  unfold Ch at ok od
  cases hkk:((zw c.qw i).kind==1)with
  | false=>rfl
  | true=>
   rw[od (by simpa using hkk)];rfl)
 unfold ztp zE9
 dsimp only [Tree.run0,Tree.run]
 rw[decide_eq_false (by omega),decide_eq_false (by omega),decide_eq_false (by omega),decide_eq_false (by omega),cnF,cnF,cnF,cnF]
 refine Eq.trans h0 ?_
 rw[zjl]
 simp only[zol,z8 (qD),cnF,Tree.run,qY]
 refine Eq.trans h4 ?_
 rw[zjl]
 simp only[zol,z8 (qD),cnF,id,Tree.run,qY]
noncomputable def zqn(x:zf)(h:Int)(s:Bool)(k:Nat):Bool:=((zbe x.qt k).ql==h)&&((zbe x.qt k).qb==s)
theorem zrR{x:zf}(hx:x.qt.length<=8)(h:Int)(s:Bool):zkl x h s=some (cnt (zqn x h s) x.qt.length:Int):=by
 have h0:=zK (n:=x.qt.length) (f:=fun i (n:Nat)=>zie x h s (.l0 (n:Int) (i:Int))) (S:=fun i=>cnt (zqn x h s) i) (fun i hi=>by
  have hl:=zbS (zqn x h s) i
  have e15 : ∀ n:Int,zie x h s (.l15 n (i:Int))=zie x h s (.l0 n ((i+1:Nat):Int)):=fun n=>by
   rw[zkg]
   simp only[zl0,zj i (by omega),Tree.run,qY]
  rw[zkg]
  simp only[zl0,tnC,zY hi,zo hi,cnT,zj (cnt (zqn x h s) i) (by omega),e15,Tree.run,qY]
  rw[zbN]
  unfold zqn
  cases (zbe x.qt i).ql==h <;> cases (zbe x.qt i).qb==s <;> rfl)
 refine Eq.trans (show _=zie x h s (.l0 0 0)from rfl) (Eq.trans h0 ?_)
 rw[zkg]
 simp only[zl0,z8 (qD),cnF,id,Tree.run,qY]
theorem zzY(c:za)(h:Int)(p:Nat):zqn (P c p) h true=zbW c h p:=by
 funext k;unfold zqn zbW Pt;cases (zbe (P c p).qt k).qb <;> rfl
theorem zzX(c:za)(h:Int)(p:Nat):zqn (P c p) h false=zaY c h p:=by
 funext k;unfold zqn zaY Pt;cases (zbe (P c p).qt k).qb <;> rfl
theorem zFo{c:za}(g:zaz c)(hk:0<=c.kernel/\c.kernel<1024):znG c=some true:=by
 have hn:=g.few.parts
 have hq:=g.chans
 have h0:=zK (n:=c.qq.length) (f:=fun i (_:Unit)=>zle c (.l0 (i:Int))) (S:=fun _=>()) (fun i hi=>by
  have k1':zni (zb c.qq i) c.qw.length=some true:=zA3 g hi
  rw[zfr]
  simp only[zkL,tnC,zY hi,zo hi,cnT,k1',zj i (by omega),Tree.run,qY]
  rfl)
 have h8 : ∀ i,i<c.qw.length->zle c (.l8 (i:Int) 0 0 (i:Int) 0)=zle c (.l4 ((i+1:Nat):Int)):=fun i hi=>by
  obtain ⟨o,a1,a2,a3⟩:=g.chan i hi
  have h:=zK (n:=c.qq.length) (f:=fun p (n:Nat × Nat)=>zle c (.l8 (i:Int) (n.1:Int) (n.2:Int) (i:Int) (p:Int))) (S:=fun p=>(zgV c i p,zfd c i p)) (fun p hp=>by
   have k1':zkl (zb c.qq p) (i:Int) true=some _:=zrR (g.few.qt p hp) (i:Int) true
   have k3':zkl (zb c.qq p) (i:Int) false=some _:=zrR (g.few.qt p hp) (i:Int) false
   rw[zzY]at k1'
   rw[zzX]at k3'
   have b1:=zlN g.few (i:Int) (n:=p) (by omega)
   have b2:=zlA g.few (i:Int) (n:=p) (by omega)
   have b3:=zbS (zbW c i p) (P c p).qt.length
   have b4:=zbS (zaY c i p) (P c p).qt.length
   have b5:=g.few.qt p hp
   unfold zaa at b5
   rw[zfr]
   simp only[zkL,tnC,zY hp,zo hp,cnT,k1',k3',zj p (by omega),Tree.run,qY]
   rw[zz _ (zgV c i (p+1)) (by simp only[zgV,tot,zaa];omega) (by simp only[zgV,tot,zaa]at b1 ⊢;omega),zz _ (zfd c i (p+1)) (by simp only[zfd,tot,zaa];omega) (by simp only[zfd,tot,zaa]at b2 ⊢;omega)])
  refine Eq.trans h ?_
  rw[zfr]
  have f2:((zgV c i c.qq.length:Int)==1)=true:=by rw[a1];rfl
  simp only[zkL,z8 (qD),cnF,f2,Bool.not_true,zj i (by omega),Tree.run,qY]
  rw[decide_eq_false (by omega),decide_eq_false (by omega)]
  rfl
 have h4:=zK (n:=c.qw.length) (f:=fun i (_:Unit)=>zle c (.l4 (i:Int))) (S:=fun _=>()) (fun i hi=>by
  obtain ⟨o,a1,a2,a3⟩:=g.chan i hi
  have hs:=zqI o
  have e1:=zBB o
  unfold Ch at e1
  have f1:((prt (zw c.qw i):Int)==0)=false:=by have:prt (zw c.qw i)=prt (Ch c i):=rfl;simp;omega
  have ok:=o.kind
  have od:=o.qy.2
  unfold Ch at ok od
  rw[zfr]
  simp only[zkL,tnC,zY hi,zo hi,cnT,e1,f1,cnF,h8 i hi,Tree.run,qY]
  cases hkk:((zw c.qw i).kind==1)with
  | false=>rfl
  | true=>
   rw[od (by simpa using hkk)];rfl)
 unfold znG zE6
 dsimp only [Tree.run0,Tree.run]
 rw[decide_eq_false (by omega),decide_eq_false (by omega),decide_eq_false (by omega),decide_eq_false (by omega),cnF,cnF,cnF,cnF]
 refine Eq.trans h0 ?_
 rw[zfr]
 simp only[zkL,z8 (qD),cnF,Tree.run,qY]
 refine Eq.trans h4 ?_
 rw[zfr]
 simp only[zkL,z8 (qD),cnF,id,Tree.run,qY]
abbrev Pc:=Nat × Nat × zaF
def mkR(x:Pc):zm:=⟨(x.1:Int),(x.2.1:Int),x.2.2⟩
noncomputable def kF0(c:za):Nat:=c.kernel.toNat
noncomputable def pAt(c:za)(i:Nat):Nat:=16*kF0 c+2+24*i
noncomputable def dl(c:za)(k:Nat):List LayoutEnd:=zHk c (k:Int)
noncomputable def nP(c:za):Nat:=c.qq.length
noncomputable def nC(c:za):Nat:=c.qw.length
noncomputable def cAt(c:za):Nat->Nat
 | 0=>pAt c (nP c)
 | k+1=>cAt c k+2+stg (Ch c k)+(dl c k).length*prt (Ch c k)
noncomputable def tF(c:za):Nat->Nat
 | 0=>(cAt c (nC c)+15) / 16
 | i+1=>tF c i+(1+zbv (P c i))
def za2(s:Nat):Nat->List LayoutEnd->List Pc
 | _,[]=>[]
 | a,e :: l=>(a,s,⟨8,e.qk,e.port⟩) :: za2 s (a+s) l
theorem zgw(s:Nat) : ∀ (a:Nat) (l:List LayoutEnd) (e:LayoutEnd),za2 s a (l++[e])=za2 s a l++[(a+l.length*s,s,⟨8,e.qk,e.port⟩)]
 | a,[],e=>by simp[za2]
 | a,x :: l,e=>by
  rw[List.cons_append,za2,za2,zgw s (a+s) l e,List.length_cons,List.cons_append]
  congr 4
  rw[Nat.add_mul];omega
theorem zgx(s:Nat) : ∀ (a:Nat) (l:List LayoutEnd),(za2 s a l).length=l.length
 | _,[]=>rfl
 | a,_ :: l=>by rw[za2,List.length_cons,List.length_cons,zgx s (a+s) l]
noncomputable def zfZ(c:za)(i:Nat):List Pc:=[(pAt c i,2,⟨3,(i:Int),0⟩),(pAt c i+2,17,⟨4,(i:Int),0⟩),(pAt c i+19,5,⟨5,(i:Int),0⟩)]
noncomputable def zb7(c:za):Nat->List Pc
 | 0=>[]
 | i+1=>zb7 c i++zfZ c i
noncomputable def zfX(c:za)(k:Nat):List Pc:=[(cAt c k,2,⟨6,(k:Int),0⟩),(cAt c k+2,stg (Ch c k),⟨7,(k:Int),0⟩)]
noncomputable def dAt(c:za)(k:Nat):Nat:=cAt c k+2+stg (Ch c k)
noncomputable def zdc(c:za):Nat->List Pc
 | 0=>[]
 | k+1=>(zdc c k++zfX c k)++za2 (prt (Ch c k)) (dAt c k) (dl c k)
noncomputable def rep(f i:Nat):Nat->List Pc
 | 0=>[]
 | n+1=>rep f i n++[(16*(f+n),16,⟨9,(i:Int),0⟩)]
noncomputable def zeF(c:za):Nat->List Pc
 | 0=>[]
 | i+1=>zeF c i++rep (tF c i) i (1+zbv (P c i))
noncomputable def bar(c:za):List Pc:=[(16*kF0 c,2,⟨2,0,0⟩)]
noncomputable def zaG(c:za):List Pc:=bar c++zb7 c (nP c)++zdc c (nC c)++zeF c (nP c)
theorem zk8(c:za) : ∀ n,(zb7 c n).length=3*n
 | 0=>rfl
 | n+1=>by rw[zb7,List.length_append,zk8 c n];simp[zfZ];omega
theorem zqL(f i:Nat) : ∀ n,(rep f i n).length=n
 | 0=>rfl
 | n+1=>by rw[rep,List.length_append,zqL f i n];rfl
theorem zlG(x:zf):zbv x<=16:=zbS _ _
theorem zpI(c:za) : ∀ n,(zeF c n).length<=17*n
 | 0=>qD
 | n+1=>by rw[zeF,List.length_append,zqL];have:=zpI c n;have:=zlG (P c n);omega
theorem zvn{c:za}(g:zaz c){k:Nat}(hk:k<nC c):1<=(dl c k).length/\(dl c k).length<=4:=by
 obtain ⟨_,_,h1,h2⟩:=g.chan k hk
 rw[dl,zrQ];exact⟨h1,h2⟩
theorem zl8{c:za}(g:zaz c) : ∀ n,n<=nC c->(zdc c n).length<=6*n
 | 0,_=>qD
 | n+1,h=>by
  rw[zdc,List.length_append,List.length_append,zgx]
  have:=zl8 g n (by omega)
  have:=(zvn g (show n<nC c by omega)).2
  simp[zfX];omega
theorem zuz{c:za}(g:zaz c)(hk:0<=c.kernel/\c.kernel<1024){i:Nat}(hi:i<=nP c):pAt c i<=17000:=by
 have:=g.few.parts
 unfold nP at hi
 unfold pAt kF0;omega
theorem zzH{c:za}(g:zaz c){k:Nat}(hk:k<nC c):cAt c k+7<=cAt c (k+1)/\cAt c (k+1)<=cAt c k+700:=by
 obtain ⟨o,_⟩:=g.chan k hk
 have h1:=zkC o
 have h2:=zqI o
 have h3:=zvn g hk
 have h4:=Nat.mul_le_mul h3.2 h2.2
 have h5:=Nat.mul_le_mul h3.1 h2.1
 rw[cAt];omega
theorem zzG{c:za}(g:zaz c)(hk:0<=c.kernel/\c.kernel<1024) : ∀ n,n<=nC c->cAt c n<=17000+700*n
 | 0,_=>by rw[cAt];exact zuz g hk (qD)
 | n+1,h=>by
  have:=zzG g hk n (by omega)
  have h2:=(zzH g (show n<nC c by omega)).2
  exact Nat.le_trans h2 (Nat.le_trans (Nat.add_le_add_right this 700) (Nat.le_of_eq (by rw[Nat.mul_succ,Nat.add_assoc])))
theorem zjQ{c:za}(g:zaz c)(hk:0<=c.kernel/\c.kernel<1024){n:Nat}(h:n<=nC c):cAt c n<=30000:=by
 have:=zzG g hk n h
 have:=g.chans
 unfold nC at h;omega
theorem zFB{c:za}(g:zaz c)(hk:0<=c.kernel/\c.kernel<1024) : ∀ n,tF c n<=2000+17*n
 | 0=>by rw[tF];have:=zjQ g hk (Nat.le_refl (nC c));omega
 | n+1=>by rw[tF];have:=zFB g hk n;have:=zlG (P c n);omega
theorem zpH{c:za}(g:zaz c)(hk:0<=c.kernel/\c.kernel<1024){n:Nat}(h:n<=nP c):tF c n<=3000:=by
 have:=zFB g hk n
 have:=g.few.parts
 unfold nP at h;omega
theorem zeN{α:Type}{xs:List α}{b:Nat}(h:xs.length<=4096)(hb:b<=100)(y:α):leB ((xs.length + [y].length)*b) 140737488355328=true:=zaZ (by
 exact Nat.le_trans (Nat.mul_le_mul (show xs.length + [y].length<=4097 by rw[qO];omega) hb) (by decide))
noncomputable def rA(c:za)(i:Nat):List Pc:=bar c++zb7 c i
noncomputable def rB(c:za)(k:Nat):List Pc:=rA c (nP c)++zdc c k
noncomputable def rC(c:za)(i:Nat):List Pc:=rB c (nC c)++zeF c i
theorem zBH{c:za}(g:zaz c){i:Nat}(hi:i<=nP c):(rA c i).length<=100:=by
 have:=g.few.parts
 unfold nP at hi
 rw[rA,List.length_append,zk8];simp[bar];omega
theorem zuD{c:za}(g:zaz c){k:Nat}(hk:k<=nC c):(rB c k).length<=200:=by
 have:=g.chans
 have h1:=zBH g (Nat.le_refl (nP c))
 have h2:=zl8 g k hk
 unfold nC at hk
 rw[rB,List.length_append];omega
theorem zBI{c:za}(g:zaz c){k:Nat}(hk:k<=nP c):(rC c k).length<=400:=by
 have:=g.few.parts
 have h1:=zuD g (Nat.le_refl (nC c))
 have h2:=zpI c k
 unfold nP at hk
 rw[rC,List.length_append];omega
section
variable {c:za} (g:zaz c) (hk:0<=c.kernel/\c.kernel<1024)
noncomputable def F0(c:za)(i:Nat):Option (List zm):=zcP c (.l0 (pAt c i:Int) (i:Int) ((rA c i).map mkR))
noncomputable def F4(c:za)(k:Nat):Option (List zm):=zcP c (.l4 (cAt c k:Int) (k:Int) ((rB c k).map mkR))
noncomputable def F20(c:za)(i:Nat):Option (List zm):=zcP c (.l20 (16*tF c i:Nat) (i:Int) ((rC c i).map mkR))
include g hk
theorem zGb:F0 c 0=F4 c 0:=by
 have h:=zK (n:=nP c) (f:=fun i (_:Unit)=>F0 c i) (S:=fun _=>()) (fun i hi=>by
  have hp:=zuz g hk (Nat.le_of_lt hi)
  have hl:=zBH g (Nat.le_of_lt hi)
  have b1 : ∀ y:zm,leB ((((rA c i).map mkR).length + [y].length)*40) 140737488355328=true:=zeN (by rw[List.length_map];omega) (by omega)
  have b2 : ∀ x y:zm,leB ((((rA c i).map mkR++[x]).length + [y].length)*40) 140737488355328=true:=fun x=>zeN (by rw[List.length_append,List.length_map];simp;omega) (by omega)
  have b3 : ∀ w x y:zm,leB (((((rA c i).map mkR++[w])++[x]).length + [y].length)*40) 140737488355328=true:=fun w x=>zeN (by rw[List.length_append,List.length_append,List.length_map];simp;omega) (by omega)
  have e1:i64.wrap ((pAt c i:Int)+2)=((pAt c i+2:Nat):Int):=zz _ _ (by omega) (by omega)
  have e2:i64.wrap (((pAt c i+2:Nat):Int)+17)=((pAt c i+19:Nat):Int):=zz _ _ (by omega) (by omega)
  have e3:i64.wrap ((pAt c i:Int)+24)=((pAt c (i+1):Nat):Int):=zz _ _ (by unfold pAt;omega) (by unfold pAt at hp ⊢;omega)
  unfold F0
  rw[za9]
  simp only[zcK,show decide ((i:Int)<(c.qq.length:Int))=true from zY hi,cnT,b1,b2,b3,e1,e2,e3,zj i (show i<4611686018427387904 by have:=g.few.parts;unfold nP at hi;omega),Tree.run,qY]
  have:(rA c (i+1)).map mkR=(((rA c i).map mkR++[⟨(pAt c i:Int),2,⟨3,(i:Int),0⟩⟩])++[⟨((pAt c i+2:Nat):Int),17,⟨4,(i:Int),0⟩⟩])++[⟨((pAt c i+19:Nat):Int),5,⟨5,(i:Int),0⟩⟩]:=by
   rw[show rA c (i+1)=rA c i++zfZ c i by unfold rA;rw[zb7,List.append_assoc]]
   rw[List.map_append,List.append_assoc,List.append_assoc];rfl
  rw[this])
 refine Eq.trans h ?_
 unfold F0
 rw[za9]
 have hf:decide ((nP c:Int)<(c.qq.length:Int))=false:=z8 (qD)
 simp only[zcK,hf,cnF,Tree.run,qY]
 unfold F4
 rw[show rB c 0=rA c (nP c)by unfold rB;rw[zdc,List.append_nil]]
 rfl
noncomputable def F8(c:za)(k q:Nat):Option (List zm):=zcP c (.l8 ((dAt c k+(zdT c (zaY c (k:Int)) q).length*prt (Ch c k):Nat):Int) (k:Int) (k:Int) (q:Int) ((rB c k++zfX c k++za2 (prt (Ch c k)) (dAt c k) (zdT c (zaY c (k:Int)) q)).map mkR) (Ch c k).kind (Ch c k).qx (Ch c k).qy)
noncomputable def F12(c:za)(k q i:Nat)(l:List LayoutEnd):Option (List zm):=zcP c (.l12 ((dAt c k+l.length*prt (Ch c k):Nat):Int) (k:Int) (q:Int) (k:Int) (q:Int) (zaa c q) (i:Int) ((rB c k++zfX c k++za2 (prt (Ch c k)) (dAt c k) l).map mkR) (Ch c k).kind (Ch c k).qx (Ch c k).qy)
theorem zyE{k q i:Nat}(hkk:k<nC c)(hq:q<nP c)(hi:i<zaa c q){l:List LayoutEnd}(hl:l.length<=64):F12 c k q i l=F12 c k q (i+1) (l++cond (zaY c (k:Int) q i) [⟨(q:Int),(i:Int)⟩] []):=by
 obtain ⟨o,_⟩:=g.chan k hkk
 have hpt:=zBB o
 have hpl:=zqI o
 have hst:=zkC o
 have hca:=zjQ g hk (Nat.le_of_lt hkk)
 have hrl:=zuD g (Nat.le_of_lt hkk)
 have hn:=g.few.qt q hq
 have hml:=Nat.mul_le_mul hl hpl.2
 have hd:dAt c k<=40000:=by unfold dAt;omega
 have b1 : ∀ y:zm,leB ((((rB c k++zfX c k++za2 (prt (Ch c k)) (dAt c k) l).map mkR).length + [y].length)*40) 140737488355328=true:=zeN (by rw[List.length_map,List.length_append,List.length_append,zgx];simp[zfX];omega) (by omega)
 have e61 : ∀ (a:Int) (xs:List zm),zcP c (.l61 a (k:Int) (q:Int) (k:Int) (q:Int) (zaa c q) (i:Int) xs (Ch c k).kind (Ch c k).qx (Ch c k).qy)=zcP c (.l12 a (k:Int) (q:Int) (k:Int) (q:Int) (zaa c q) ((i+1:Nat):Int) xs (Ch c k).kind (Ch c k).qx (Ch c k).qy):=fun a xs=>by
  rw[za9]
  simp only[zcK,zj i (by omega),Tree.run,qY]
 have e1:i64.wrap (((dAt c k+l.length*prt (Ch c k):Nat):Int)+(prt (Ch c k):Int))=((dAt c k+(l.length+1)*prt (Ch c k):Nat):Int):=zz _ _ (by rw[Nat.add_mul];omega) (by rw[Nat.add_mul];omega)
 have hi':i<(zb c.qq q).qt.length:=hi
 have hpt':zo8 (⟨(Ch c k).kind,(Ch c k).qx,(Ch c k).qy⟩:zI)=(prt (Ch c k):Int):=hpt
 unfold F12
 rw[za9]
 simp only[zcK,tnC,zY hi,zo hi',zo (show q<c.qq.length from hq),cnT,b1,hpt',e1,e61,Tree.run,qY]
 unfold zaY Pt P
 cases (zbe (zb c.qq q).qt i).ql==(k:Int) <;> cases (zbe (zb c.qq q).qt i).qb
 . simp only[cnF,Bool.false_and,List.append_nil]
 . simp only[cnF,Bool.false_and,List.append_nil]
 . simp only[cnT,cnF,Bool.true_and,Bool.not_false]
   rw[zgw,List.length_append,qO,← List.append_assoc,List.map_append (l₂:=[_])]
   rfl
 . simp only[cnT,cnF,Bool.true_and,Bool.not_true,List.append_nil]
theorem zGe:F4 c 0=zcP c (.l16 (cAt c (nC c):Int) ((rB c (nC c)).map mkR)):=by
 have h:=zK (n:=nC c) (f:=fun k (_:Unit)=>F4 c k) (S:=fun _=>()) (fun k hkk=>by
  obtain ⟨o,_⟩:=g.chan k hkk
  have hst:=zkC o
  have hsr:=zEh o
  have hca:=zjQ g hk (Nat.le_of_lt hkk)
  have hrl:=zuD g (Nat.le_of_lt hkk)
  have b1 : ∀ y:zm,leB ((((rB c k).map mkR).length + [y].length)*40) 140737488355328=true:=zeN (by rw[List.length_map];omega) (by omega)
  have b2 : ∀ x y:zm,leB ((((rB c k).map mkR++[x]).length + [y].length)*40) 140737488355328=true:=fun x=>zeN (by rw[List.length_append,List.length_map];simp;omega) (by omega)
  have e1:i64.wrap ((cAt c k:Int)+2)=((cAt c k+2:Nat):Int):=zz _ _ (by omega) (by omega)
  have e2:i64.wrap (2+(stg (Ch c k):Int))=((2+stg (Ch c k):Nat):Int):=zz _ _ (by omega) (by omega)
  have e3:i64.wrap ((cAt c k:Int)+((2+stg (Ch c k):Nat):Int))=((dAt c k:Nat):Int):=zz _ _ (by unfold dAt;omega) (by unfold dAt;omega)
  have hsr':zo9 (zw c.qw k)=(stg (Ch c k):Int):=hsr
  have hk16:=g.chans
  unfold nC at hkk
  have s1:F4 c k=F8 c k 0:=by
   unfold F4 F8
   rw[za9]
   simp only[zcK,tnC,zY hkk,zo hkk,cnT,b1,b2,hsr',e1,e2,e3,Tree.run,qY]
   rw[zdT,za2,List.append_nil,List.length_nil,Nat.zero_mul,Nat.add_zero,List.map_append,List.append_assoc]
   rfl
  have s2:=zK (n:=nP c) (f:=fun q (_:Unit)=>F8 c k q) (S:=fun _=>()) (fun q hq=>by
   have hq8:=g.few.parts
   have hq':q<c.qq.length:=hq
   have dle : ∀ i,i<=zaa c q->(zdT c (zaY c (k:Int)) q++zdC (zaY c (k:Int)) q i).length<=64:=fun i hi=>by
    rw[List.length_append,zd9,zfe]
    have hm:cnt (zaY c (k:Int) q) i<=i:=zbS _ _
    have h2:=znO (g:=fun p=>cnt (zaY c (k:Int) p) (zaa c p)) (b:=8) (n:=q) fun i hi=>Nat.le_trans (zbS _ _) (g.few.qt i (by omega))
    have:=g.few.qt q hq'
    omega
   have s3:=zK (n:=zaa c q) (f:=fun i (l:List LayoutEnd)=>F12 c k q i l) (S:=fun i=>zdT c (zaY c (k:Int)) q++zdC (zaY c (k:Int)) q i) (fun i hi=>by
    rw[zyE g hk hkk hq hi (dle i (Nat.le_of_lt hi)),zfE,List.append_assoc])
   have s4:F8 c k q=F12 c k q 0 (zdT c (zaY c (k:Int)) q):=by
    unfold F8 F12
    rw[za9]
    simp only[zcK,tnC,zY hq',zo hq',cnT,Tree.run,qY]
    rfl
   rw[s4]
   rw[show zdC (zaY c (k:Int)) q 0=[]from rfl,List.append_nil]at s3
   rw[s3]
   unfold F8 F12
   rw[za9]
   have hf:decide ((zaa c q:Int)<(zaa c q:Int))=false:=z8 (qD)
   simp only[zcK,hf,cnF,zj q (show q<4611686018427387904 by omega),Tree.run,qY]
   rfl)
  rw[s1,s2]
  unfold F8 F4
  rw[za9]
  have hf:decide ((nP c:Int)<(c.qq.length:Int))=false:=z8 (qD)
  simp only[zcK,hf,cnF,zj k (show k<4611686018427387904 by omega),Tree.run,qY]
  rw[show rB c (k+1)=rB c k++zfX c k++za2 (prt (Ch c k)) (dAt c k) (dl c k)by unfold rB;rw[zdc,List.append_assoc,List.append_assoc,List.append_assoc]]
  rfl)
 refine Eq.trans h ?_
 unfold F4
 rw[za9]
 have hf:decide ((nC c:Int)<(c.qw.length:Int))=false:=z8 (qD)
 simp only[zcK,hf,cnF,Tree.run,qY]
end
theorem zvW(c:za)(xs:List zm) : ∀ m a:Nat,16*((a+15) / 16)=a+m->a+m<100000->zcP c (.l16 (a:Int) xs)=zcP c (.l20 ((16*((a+15) / 16):Nat):Int) 0 xs)
 | 0,a,h,ha=>by
  have hr:a % 16=0:=by omega
  rw[h,Nat.add_zero]
  rw[za9]
  simp only[zcK,zhi,hr,Tree.run,qY]
  rfl
 | m+1,a,h,ha=>by
  have hr:((((a % 16:Nat):Int))==0)=false:=beq_eq_false_iff_ne.2 (by omega)
  have hd:(a+1+15) / 16=(a+15) / 16:=by omega
  have ih:=zvW c xs m (a+1) (by rw[hd];omega) (by omega)
  rw[hd]at ih
  rw[← ih,za9]
  simp only[zcK,zhi,hr,Bool.not_false,cnT,zj a (by omega),Tree.run,qY]
section
variable {c:za} (g:zaz c) (hk:0<=c.kernel/\c.kernel<1024)
include g hk
theorem zCP:F20 c 0=some ((zaG c).map mkR):=by
 have h:=zK (n:=nP c) (f:=fun i (_:Unit)=>F20 c i) (S:=fun _=>()) (fun i hi=>by
  have hi':i<c.qq.length:=hi
  have hP:=g.few.parts
  have hrl:=zBI g (Nat.le_of_lt hi)
  have htf:=zpH g hk (Nat.le_of_lt hi)
  have hnt:=zlG (P c i)
  have ht : ∀ t:Int,zkm (P c i) t=zkm (P c i) t:=fun _=>rfl
  have s1:F20 c i=zcP c (.l24 (16*tF c i:Nat) (i:Int) 1 (i:Int) 0 ((rC c i).map mkR)):=by
   unfold F20
   rw[za9]
   simp only[zcK,zY hi',cnT,Tree.run,qY]
  have s2:=zK (n:=16) (f:=fun t (n:Nat)=>zcP c (.l24 (16*tF c i:Nat) (i:Int) (n:Int) (i:Int) (t:Int) ((rC c i).map mkR))) (S:=fun t=>1+cnt (zC (P c i)) t) (fun t ht16=>by
   have hl:=zbS (zC (P c i)) t
   have k1':zkm (zb c.qq i) (t:Int)=some (zC (P c i) t):=zyt (g.nregs i hi').2 (fun k hkk=>(g.qz i k hi' hkk).ok) t
   have e89 : ∀ n:Int,zcP c (.l89 (16*tF c i:Nat) (i:Int) n (i:Int) (t:Int) ((rC c i).map mkR))=zcP c (.l24 (16*tF c i:Nat) (i:Int) n (i:Int) ((t+1:Nat):Int) ((rC c i).map mkR)):=fun n=>by
    rw[za9]
    simp only[zcK,zj t (show t<4611686018427387904 by omega),Tree.run,qY]
   rw[za9]
   simp only[zcK,show decide ((t:Int)<16)=true from decide_eq_true (by omega),zo hi',tnC,cnT,k1',e89,zj (1+cnt (zC (P c i)) t) (show 1+cnt (zC (P c i)) t<4611686018427387904 by omega),Tree.run,qY]
   rw[zbN]
   cases zC (P c i) t <;> rfl)
  have s3:zcP c (.l24 (16*tF c i:Nat) (i:Int) ((1+zbv (P c i):Nat):Int) (i:Int) ((16:Nat):Int) ((rC c i).map mkR))=zcP c (.l28 (16*tF c i:Nat) (i:Int) (i:Int) ((1+zbv (P c i):Nat):Int) 0 ((rC c i).map mkR)):=by
   rw[za9]
   simp only[zcK,show decide (((16:Nat):Int)<16)=false from rfl,cnF,Tree.run,qY]
  have s4:=zK (n:=1+zbv (P c i)) (f:=fun j (_:Unit)=>zcP c (.l28 (16*(tF c i+j):Nat) (i:Int) (i:Int) ((1+zbv (P c i):Nat):Int) (j:Int) ((rC c i++rep (tF c i) i j).map mkR))) (S:=fun _=>()) (fun j hj=>by
   have b1 : ∀ y:zm,leB ((((rC c i++rep (tF c i) i j).map mkR).length + [y].length)*40) 140737488355328=true:=zeN (by rw[List.length_map,List.length_append,zqL];omega) (by omega)
   have e1:i64.wrap (((16*(tF c i+j):Nat):Int)+16)=((16*(tF c i+(j+1)):Nat):Int):=zz _ _ (by omega) (by omega)
   rw[za9]
   simp only[zcK,zY hj,cnT,b1,e1,zj j (show j<4611686018427387904 by omega),Tree.run,qY]
   rw[rep,← List.append_assoc,List.map_append (l₂:=[_])]
   rfl)
  rw[s1]
  refine Eq.trans s2 (Eq.trans s3 (Eq.trans (Eq.trans ?_ s4) ?_))
  . rw[rep,List.append_nil];rfl
  . rw[za9]
    simp only[zcK,z8 (qD),cnF,zj i (show i<4611686018427387904 by omega),Tree.run,qY]
    unfold F20
    rw[show rC c (i+1)=rC c i++rep (tF c i) i (1+zbv (P c i))by unfold rC;rw[zeF,List.append_assoc],tF])
 refine Eq.trans h ?_
 unfold F20
 rw[za9]
 have hf:decide ((nP c:Int)<(c.qq.length:Int))=false:=z8 (qD)
 simp only[zcK,hf,cnF,id,Tree.run,qY]
 rfl
theorem zi2:zjv c=some ((zaG c).map mkR):=by
 have hP:=g.few.parts
 have e0:i64.wrap (16*c.kernel)=((16*kF0 c:Nat):Int):=zz _ _ (by unfold kF0;omega) (by unfold kF0;omega)
 have e1:i64.wrap (((16*kF0 c:Nat):Int)+2)=((pAt c 0:Nat):Int):=zz _ _ (by unfold pAt;omega) (by unfold pAt kF0;omega)
 have hc:=zjQ g hk (Nat.le_refl (nC c))
 unfold zjv zE7
 dsimp only [Tree.run0,Tree.run]
 rw[e0,e1,zeN (by simp) (by omega),cnT]
 refine Eq.trans (show _=F0 c 0 from ?_) ?_
 . unfold F0
   rw[show rA c 0=bar c by unfold rA;rw[zb7,List.append_nil]]
   rfl
 . rw[zGb g hk,zGe g hk,zvW c _ (16*((cAt c (nC c)+15) / 16)-cAt c (nC c)) (cAt c (nC c)) (by omega) (by omega)]
   rw[← zCP g hk]
   unfold F20
   rw[show rC c 0=rB c (nC c)by unfold rC;rw[zeF,List.append_nil],tF]
   rfl
end
def zb5(s:Nat):Nat->List LayoutEnd->List zaX
 | _,[]=>[]
 | a,e :: l=>⟨e.qk,e.port,(a:Int)⟩ :: zb5 s (a+s) l
theorem zgg(s:Nat) : ∀ (a:Nat) (l:List LayoutEnd) (e:LayoutEnd),zb5 s a (l++[e])=zb5 s a l++[⟨e.qk,e.port,((a+l.length*s:Nat):Int)⟩]
 | a,[],e=>by simp[zb5]
 | a,x :: l,e=>by
  rw[List.cons_append,zb5,zb5,zgg s (a+s) l e,List.length_cons,List.cons_append]
  rw[show a+s+l.length*s=a+(l.length+1)*s by rw[Nat.add_mul];omega]
theorem zgh(s:Nat) : ∀ (a:Nat) (l:List LayoutEnd),(zb5 s a l).length=l.length
 | _,[]=>rfl
 | a,_ :: l=>by rw[zb5,List.length_cons,List.length_cons,zgh s (a+s) l]
noncomputable def base(c:za)(i:Nat):zk:=⟨(pAt c i:Int),((pAt c i+2:Nat):Int),((pAt c i+19:Nat):Int),0,[]⟩
def zhB(f j:Nat):List Int:=(List.range j).map fun t:Nat=>((f+1+t:Nat):Int)
noncomputable def full(c:za)(i:Nat):zk:=⟨(pAt c i:Int),((pAt c i+2:Nat):Int),((pAt c i+19:Nat):Int),(tF c i:Int),zhB (tF c i) (zbv (P c i))⟩
noncomputable def srcE(c:za)(k:Nat):LayoutEnd:=zZ (zoa c (k:Int)) 0
noncomputable def zxy(c:za)(k:Nat):zF:=⟨(cAt c k:Int),((cAt c k+2:Nat):Int),(srcE c k).qk,(srcE c k).port,zb5 (prt (Ch c k)) (dAt c k) (dl c k)⟩
noncomputable def plA(c:za)(n:Nat):List zk:=(List.range n).map (base c)
noncomputable def plT(c:za)(i:Nat):List zk:=(List.range (nP c)).map fun q=>if q<i then full c q else base c q
noncomputable def chL(c:za)(n:Nat):List zF:=(List.range n).map (zxy c)
noncomputable def lay(c:za):zaR:=⟨((16*kF0 c:Nat):Int),plT c (nP c),chL c (nC c),(tF c (nP c):Int)⟩
theorem zgp(n h:Int):zb8 n h=(h,i64.wrap (h+n)):=rfl
theorem zrk(n:Int):zn9 n=n:=rfl
theorem zi3(c:za)(i:Nat):(plT c i).length=nP c:=by simp[plT]
theorem zG2{xs:List zk}{i:Nat}{y:zk}(h:i<xs.length):zn (List.set xs i y) i=y:=by
 simp[zn,List.getD,List.getElem?_set,h]
theorem zqE{c:za}{i j:Nat}(hj:j<nP c):zn (plT c i) j=if j<i then full c j else base c j:=by
 simp[zn,List.getD,plT,hj]
theorem zD3{c:za}{i:Nat}(hi:i<nP c):List.set (plT c i) i (full c i)=plT c (i+1):=by
 apply List.ext_getElem
 . simp[plT]
 . intro j h1 h2
   simp only[plT,List.getElem_set,List.getElem_map,List.getElem_range]
   by_cases hj:i=j
   . subst hj;rw[if_pos rfl,if_pos (by omega)]
   . rw[if_neg hj]
     by_cases h3:j<i
     . rw[if_pos h3,if_pos (by omega)]
     . rw[if_neg h3,if_neg (by omega)]
section
variable {c:za} (g:zaz c) (hk:0<=c.kernel/\c.kernel<1024)
include g hk
theorem zGg:zcO c (.l0 0 (pAt c 0:Int) [])=zcO c (.l4 0 (cAt c 0:Int) (plA c (nP c)) []):=by
 have h:=zK (n:=nP c) (f:=fun i (_:Unit)=>zcO c (.l0 (i:Int) (pAt c i:Int) (plA c i))) (S:=fun _=>()) (fun i hi=>by
  have hi':i<c.qq.length:=hi
  have hP:=g.few.parts
  have hp:=zuz g hk (Nat.le_of_lt hi)
  have b1 : ∀ y:zk,leB (((plA c i).length + [y].length)*56) 140737488355328=true:=zeN (by simp[plA];omega) (by omega)
  have e1:i64.wrap ((pAt c i:Int)+2)=((pAt c i+2:Nat):Int):=zz _ _ (by omega) (by omega)
  have e2:i64.wrap (((pAt c i+2:Nat):Int)+17)=((pAt c i+19:Nat):Int):=zz _ _ (by omega) (by omega)
  have e3:i64.wrap (((pAt c i+19:Nat):Int)+5)=((pAt c (i+1):Nat):Int):=zz _ _ (by unfold pAt;omega) (by unfold pAt at hp ⊢;omega)
  rw[zcz]
  simp only[zfW,zY hi',cnT,zgp,e1,e2,e3,b1,zj i (show i<4611686018427387904 by omega),Tree.run,qY]
  rw[show plA c (i+1)=plA c i++[base c i]from zbu _ _]
  rfl)
 refine Eq.trans h ?_
 rw[zcz]
 have hf:decide ((nP c:Int)<(c.qq.length:Int))=false:=z8 (qD)
 simp only[zfW,hf,cnF,Tree.run,qY]
 rfl
theorem zCR{k:Nat}(hkk:k<nC c):zcO c (.l4 (k:Int) (cAt c k:Int) (plA c (nP c)) (chL c k))=zcO c (.l4 ((k+1:Nat):Int) (cAt c (k+1):Int) (plA c (nP c)) (chL c (k+1))):=by
 have hkk':k<c.qw.length:=hkk
 have hC:=g.chans
 obtain ⟨o,a1,_⟩:=g.chan k hkk'
 have hst:=zkC o
 have hpl:=zqI o
 have hca:=zjQ g hk (Nat.le_of_lt hkk)
 have k1':zpy c (k:Int)=some (zoa c (k:Int),dl c k):=zvA g.few (k:Int)
 have hs1:(zoa c (k:Int)).length=1:=by rw[ztt];exact a1
 have hr:zO 0 (zoa c (k:Int)).length=true:=by rw[hs1];rfl
 have e1:i64.wrap ((cAt c k:Int)+2)=((cAt c k+2:Nat):Int):=zz _ _ (by omega) (by omega)
 have e2:i64.wrap (((cAt c k+2:Nat):Int)+(stg (Ch c k):Int))=((dAt c k:Nat):Int):=zz _ _ (by unfold dAt;omega) (by unfold dAt;omega)
 have hsr':zqQ (zw c.qw k)=(stg (Ch c k):Int):=zri o
 have hd4:=(zvn g hkk).2
 have hd:dAt c k<=40000:=by unfold dAt;omega
 have s1:zcO c (.l4 (k:Int) (cAt c k:Int) (plA c (nP c)) (chL c k))=zcO c (.l8 (zoa c (k:Int),dl c k) (k:Int) 0 (dAt c k:Int) (plA c (nP c)) (chL c k) (Ch c k).kind (Ch c k).qx (Ch c k).qy (cAt c k:Int) ((cAt c k+2:Nat):Int) []):=by
  rw[zcz]
  simp only[zfW,zY hkk',zo hkk',tnC,cnT,zgp,k1',hr,hsr',e1,e2,Tree.run,qY]
  rfl
 have s2:=zK (n:=(dl c k).length) (f:=fun j (_:Unit)=>zcO c (.l8 (zoa c (k:Int),dl c k) (k:Int) (j:Int) ((dAt c k+j*prt (Ch c k):Nat):Int) (plA c (nP c)) (chL c k) (Ch c k).kind (Ch c k).qx (Ch c k).qy (cAt c k:Int) ((cAt c k+2:Nat):Int) (zb5 (prt (Ch c k)) (dAt c k) ((dl c k).take j)))) (S:=fun _=>()) (fun j hj=>by
  have b1 : ∀ y:zaX,leB (((zb5 (prt (Ch c k)) (dAt c k) ((dl c k).take j)).length + [y].length)*24) 140737488355328=true:=zeN (by rw[zgh,List.length_take];omega) (by omega)
  have hm:=Nat.mul_le_mul (show j<=4 by omega) hpl.2
  have e3:i64.wrap (((dAt c k+j*prt (Ch c k):Nat):Int)+(prt (Ch c k):Int))=((dAt c k+(j+1)*prt (Ch c k):Nat):Int):=zz _ _ (by rw[Nat.add_mul];omega) (by rw[Nat.add_mul];omega)
  have hpr':zB1 (⟨(Ch c k).kind,(Ch c k).qx,(Ch c k).qy⟩:zI)=(prt (Ch c k):Int):=zJJ o
  rw[zcz]
  simp only[zfW,zY hj,zo hj,tnC,cnT,zgp,b1,hpr',e3,zj j (show j<4611686018427387904 by omega),Tree.run,qY]
  have ht:(dl c k).take (j+1)=(dl c k).take j++[zZ (dl c k) j]:=by
   rw[List.take_add_one];simp[zZ,List.getD,hj]
  rw[ht,zgg,List.length_take,Nat.min_eq_left (Nat.le_of_lt hj)])
 have s3:zcO c (.l8 (zoa c (k:Int),dl c k) (k:Int) ((dl c k).length:Int) ((dAt c k+(dl c k).length*prt (Ch c k):Nat):Int) (plA c (nP c)) (chL c k) (Ch c k).kind (Ch c k).qx (Ch c k).qy (cAt c k:Int) ((cAt c k+2:Nat):Int) (zb5 (prt (Ch c k)) (dAt c k) (dl c k)))=zcO c (.l4 ((k+1:Nat):Int) (cAt c (k+1):Int) (plA c (nP c)) (chL c (k+1))):=by
  have b1 : ∀ y:zF,leB (((chL c k).length + [y].length)*56) 140737488355328=true:=zeN (by simp[chL];omega) (by omega)
  rw[zcz]
  simp only[zfW,z8 (qD),cnF,b1,cnT,zj k (show k<4611686018427387904 by omega),Tree.run,qY]
  rw[show chL c (k+1)=chL c k++[zxy c k]from zbu _ _]
  rfl
 rw[List.take_length]at s2
 exact s1.trans ((show _=_ from by rw[Nat.zero_mul,Nat.add_zero,List.take_zero]at s2;exact s2).trans s3)
theorem zyG{i:Nat}(hi:i<nP c):zcO c (.l12 (i:Int) (plT c i) (chL c (nC c)) (tF c i:Int))=zcO c (.l12 ((i+1:Nat):Int) (plT c (i+1)) (chL c (nC c)) (tF c (i+1):Int)):=by
 have hi':i<c.qq.length:=hi
 have hP:=g.few.parts
 have htf:=zpH g hk (Nat.le_of_lt hi)
 have hnt:=zlG (P c i)
 have k1':zwl (zb c.qq i)=some (zbv (P c i):Int):=zCr (g.nregs i hi').2 (fun k hkk=>(g.qz i k hi' hkk).ok)
 have hl:i<(plT c i).length:=by rw[zi3];exact hi
 have hb:zn (plT c i) i=base c i:=by rw[zqE hi,if_neg (Nat.lt_irrefl _)]
 have s1:zcO c (.l12 (i:Int) (plT c i) (chL c (nC c)) (tF c i:Int))=zcO c (.l16 (zbv (P c i):Int) (i:Int) (i:Int) 0 (List.set (plT c i) i ⟨(pAt c i:Int),((pAt c i+2:Nat):Int),((pAt c i+19:Nat):Int),(tF c i:Int),zhB (tF c i) 0⟩) (chL c (nC c)) ((tF c i+1:Nat):Int)):=by
  have e1:i64.wrap ((tF c i:Int)+1)=((tF c i+1:Nat):Int):=zz _ _ (by omega) (by omega)
  rw[zcz]
  simp only[zfW,zY hi',zo hi',zo hl,tnC,cnT,zgp,k1',hb,e1,Tree.run,qY]
  rfl
 have s2:=zK (n:=zbv (P c i)) (f:=fun j (_:Unit)=>zcO c (.l16 (zbv (P c i):Int) (i:Int) (i:Int) (j:Int) (List.set (plT c i) i ⟨(pAt c i:Int),((pAt c i+2:Nat):Int),((pAt c i+19:Nat):Int),(tF c i:Int),zhB (tF c i) j⟩) (chL c (nC c)) ((tF c i+1+j:Nat):Int))) (S:=fun _=>()) (fun j hj=>by
  have hl2 : ∀ y,i<(List.set (plT c i) i y).length:=fun y=>by rw[List.length_set];exact hl
  have e1:i64.wrap (((tF c i+1+j:Nat):Int)+1)=((tF c i+1+(j+1):Nat):Int):=zz _ _ (by omega) (by omega)
  have b1 : ∀ y:Int,leB (((zhB (tF c i) j).length + [y].length)*8) 140737488355328=true:=zeN (by simp[zhB];omega) (by omega)
  rw[zcz]
  simp only[zfW,zY hj,zo (hl2 _),tnC,cnT,zgp,zG2 hl,b1,e1,List.set_set,Nat.beq_refl,zj j (show j<4611686018427387904 by omega),Tree.run,qY]
  rw[show zhB (tF c i) (j+1)=zhB (tF c i) j++[((tF c i+1+j:Nat):Int)]from zbu _ _])
 rw[s1]
 refine Eq.trans s2 ?_
 rw[zcz]
 simp only[zfW,z8 (qD),cnF,zj i (show i<4611686018427387904 by omega),Tree.run,qY]
 rw[show(⟨(pAt c i:Int),((pAt c i+2:Nat):Int),((pAt c i+19:Nat):Int),(tF c i:Int),zhB (tF c i) (zbv (P c i))⟩:zk)=full c i from rfl,zD3 hi,tF,show tF c i+1+zbv (P c i)=tF c i+(1+zbv (P c i))by omega]
theorem zsd:zc4 c=some (lay c,0):=by
 have k1':ztp c=some true:=zMv g hk
 have hca:=zjQ g hk (Nat.le_refl (nC c))
 have e0:i64.wrap (c.kernel*16)=((16*kF0 c:Nat):Int):=zz _ _ (by unfold kF0;omega) (by unfold kF0;omega)
 have e1:i64.wrap (((16*kF0 c:Nat):Int)+2)=((pAt c 0:Nat):Int):=zz _ _ (by unfold pAt;omega) (by unfold pAt kF0;omega)
 have e2:i64.wrap ((cAt c (nC c):Int)+16)=((cAt c (nC c)+16:Nat):Int):=zz _ _ (by omega) (by omega)
 have e3:i64.wrap (((cAt c (nC c)+16:Nat):Int)-1)=((cAt c (nC c)+15:Nat):Int):=zz _ _ (by omega) (by omega)
 unfold zc4 zET
 dsimp only [Tree.run0,Tree.run]
 rw[k1',qY,Bool.not_true,cnF,zrk,zgp,e0,e1]
 refine Eq.trans (zGg g hk) ?_
 refine Eq.trans (zK (n:=nC c) (f:=fun k (_:Unit)=>zcO c (.l4 (k:Int) (cAt c k:Int) (plA c (nP c)) (chL c k))) (S:=fun _=>()) fun k hkk=>zCR g hk hkk) ?_
 rw[zcz]
 have hf:decide ((nC c:Int)<(c.qw.length:Int))=false:=z8 (qD)
 simp only[zfW,hf,cnF,zgp,zrk,e2,e3,zch _ (show cAt c (nC c)+15<4611686018427387904 by omega),Tree.run,qY]
 have ep:plA c (nP c)=plT c 0:=by
  unfold plA plT
  apply List.map_congr_left
  intro q _
  rw[if_neg (by omega)]
 rw[ep]
 refine Eq.trans (zK (n:=nP c) (f:=fun i (_:Unit)=>zcO c (.l12 (i:Int) (plT c i) (chL c (nC c)) (tF c i:Int))) (S:=fun _=>()) fun i hi=>zyG g hk hi) ?_
 rw[zcz]
 have hf:decide ((nP c:Int)<(c.qq.length:Int))=false:=z8 (qD)
 simp only[zfW,hf,cnF,zgp,zrk,e0,id,Tree.run,qY]
 rfl
end
def Laid:Nat->List Pc->Nat->Prop
 | a,[],b=>a<=b
 | a,x :: l,b=>a<=x.1/\Laid (x.1+x.2.1) l b
theorem Laid.mono{a a':Nat}{l:List Pc}{b:Nat}(h:Laid a l b)(ha:a'<=a):Laid a' l b:=by
 cases l with
 | nil=>exact Nat.le_trans ha h
 | cons x l=>exact⟨Nat.le_trans ha h.1,h.2⟩
theorem Laid.append : ∀ {l l':List Pc} {a m b:Nat},Laid a l m->Laid m l' b->Laid a (l++l') b
 | [],_,_,_,_,h,h'=>h'.mono h
 | _ :: _,_,_,_,_,h,h'=>⟨h.1,Laid.append h.2 h'⟩
theorem Laid.in_ : ∀ {l:List Pc} {a b:Nat},Laid a l b->∀ x ∈ l,a<=x.1/\x.1+x.2.1<=b
 | [],_,_,_,_,hx=>by cases hx
 | y :: l,a,b,h,x,hx=>by
  have hb : ∀ {l:List Pc} {a b:Nat},Laid a l b->a<=b:=by
   intro l
   induction l with
   | nil=>intro a b h;exact h
   | cons y l ih=>intro a b h;have:=ih h.2;have:=h.1;omega
  rcases List.mem_cons.1 hx with rfl | hx
  . exact⟨h.1,hb h.2⟩
  . obtain ⟨h1,h2⟩:=Laid.in_ h.2 x hx
    have:=h.1
    exact⟨by omega,h2⟩
def inP(x:Pc)(a:Nat):Bool:=decide (x.1<=a)&&decide (a<x.1+x.2.1)
theorem inP_iff{x:Pc}{a:Nat}:inP x a=true ↔ x.1<=a/\a<x.1+x.2.1:=by simp[inP]
theorem Laid.one : ∀ {l:List Pc} {a b:Nat},Laid a l b->∀ {x y:Pc} {n:Nat},x ∈ l->y ∈ l->inP x n=true->inP y n=true->x=y
 | [],_,_,_,_,_,_,hx,_,_,_=>by cases hx
 | z :: l,a,b,h,x,y,n,hx,hy,h1,h2=>by
  have i1:=inP_iff.1 h1
  have i2:=inP_iff.1 h2
  rcases List.mem_cons.1 hx with rfl | hx'
  . rcases List.mem_cons.1 hy with rfl | hy'
    . rfl
    . have:=(h.2.in_ y hy').1;omega
  . rcases List.mem_cons.1 hy with rfl | hy'
    . have:=(h.2.in_ x hx').1;omega
    . exact Laid.one h.2 hx' hy' h1 h2
theorem zmn(s:Nat) : ∀ (l:List LayoutEnd) (a:Nat),Laid a (za2 s a l) (a+l.length*s)
 | [],a=>by simp[za2,Laid]
 | e :: l,a=>by
  refine⟨qD,?_⟩
  have:=zmn s l (a+s)
  rw[List.length_cons,Nat.add_mul,Nat.one_mul,show a+(l.length*s+s)=a+s+l.length*s by omega]
  exact this
theorem zmm(c:za) : ∀ n,Laid (pAt c 0) (zb7 c n) (pAt c n)
 | 0=>qD
 | n+1=>by
  rw[zb7]
  refine(zmm c n).append ?_
  simp only[zfZ,Laid,pAt]
  omega
theorem zml(c:za) : ∀ n,Laid (cAt c 0) (zdc c n) (cAt c n)
 | 0=>qD
 | n+1=>by
  rw[zdc]
  refine((zml c n).append (m:=cAt c n) (b:=dAt c n) ?_).append ?_
  . exact⟨qD,qD,qD⟩
  . exact zmn _ _ _
theorem zsc(f i:Nat) : ∀ n,Laid (16*f) (rep f i n) (16*(f+n))
 | 0=>qD
 | n+1=>by
  rw[rep]
  refine(zsc f i n).append ?_
  simp only[Laid]
  omega
theorem zoJ(c:za) : ∀ n,Laid (16*tF c 0) (zeF c n) (16*tF c n)
 | 0=>qD
 | n+1=>by
  rw[zeF,tF]
  exact(zoJ c n).append (zsc _ _ _)
theorem zmo(c:za):Laid (16*kF0 c) (zaG c) (16*tF c (nP c)):=by
 refine(((Laid.append (m:=pAt c 0) ?_ (zmm c _)).append (zml c _)).append ((zoJ c _).mono ?_))
 . exact⟨qD,qD⟩
 . show cAt c (nC c)<=16*((cAt c (nC c)+15) / 16)
   omega
inductive Is(c:za):Pc->Prop
 | bar:Is c (16*kF0 c,2,⟨2,0,0⟩)
 | lock {i:Nat} (h:i<nP c):Is c (pAt c i,2,⟨3,(i:Int),0⟩)
 | save {i:Nat} (h:i<nP c):Is c (pAt c i+2,17,⟨4,(i:Int),0⟩)
 | state {i:Nat} (h:i<nP c):Is c (pAt c i+19,5,⟨5,(i:Int),0⟩)
 | chan {k:Nat} (h:k<nC c):Is c (cAt c k,2,⟨6,(k:Int),0⟩)
 | qn {k:Nat} (h:k<nC c):Is c (cAt c k+2,stg (Ch c k),⟨7,(k:Int),0⟩)
 | port {k:Nat} (h:k<nC c) {x:Pc} (hx:x ∈ za2 (prt (Ch c k)) (dAt c k) (dl c k)):Is c x
 | tab {i:Nat} (h:i<nP c) {x:Pc} (hx:x ∈ rep (tF c i) i (1+zbv (P c i))):Is c x
theorem zoX(c:za){x:Pc} : ∀ n,x ∈ zb7 c n ↔ ∃ i,i<n/\x ∈ zfZ c i
 | 0=>by simp[zb7]
 | n+1=>by
  rw[zb7,List.mem_append,zoX c n]
  constructor
  . rintro (⟨i,hi,h⟩ | h)
    . exact⟨i,by omega,h⟩
    . exact⟨n,by omega,h⟩
  . rintro ⟨i,hi,h⟩
    by_cases hin:i=n
    . subst hin;exact .inr h
    . exact .inl ⟨i,by omega,h⟩
theorem zjS(c:za){x:Pc} : ∀ n,x ∈ zdc c n ↔ ∃ k,k<n/\(x ∈ zfX c k ∨ x ∈ za2 (prt (Ch c k)) (dAt c k) (dl c k))
 | 0=>by simp[zdc]
 | n+1=>by
  rw[zdc,List.mem_append,List.mem_append,zjS c n]
  constructor
  . rintro ((⟨i,hi,h⟩ | h) | h)
    . exact⟨i,by omega,h⟩
    . exact⟨n,by omega,.inl h⟩
    . exact⟨n,by omega,.inr h⟩
  . rintro ⟨i,hi,h⟩
    by_cases hin:i=n
    . subst hin
      rcases h with h | h
      . exact .inl (.inr h)
      . exact .inr h
    . exact .inl (.inl ⟨i,by omega,h⟩)
theorem zty(c:za){x:Pc} : ∀ n,x ∈ zeF c n ↔ ∃ i,i<n/\x ∈ rep (tF c i) i (1+zbv (P c i))
 | 0=>by simp[zeF]
 | n+1=>by
  rw[zeF,List.mem_append,zty c n]
  constructor
  . rintro (⟨i,hi,h⟩ | h)
    . exact⟨i,by omega,h⟩
    . exact⟨n,by omega,h⟩
  . rintro ⟨i,hi,h⟩
    by_cases hin:i=n
    . subst hin;exact .inr h
    . exact .inl ⟨i,by omega,h⟩
theorem ref_mem{c:za}{x:Pc}:x ∈ zaG c ↔ Is c x:=by
 unfold zaG
 rw[List.mem_append,List.mem_append,List.mem_append,zoX,zjS,zty]
 constructor
 . rintro (((h | ⟨i,hi,h⟩) | ⟨k,hk,h | h⟩) | ⟨i,hi,h⟩)
   . rw[bar,List.mem_singleton]at h;subst h;exact .bar
   . simp only[zfZ,List.mem_cons,List.not_mem_nil,or_false]at h
     rcases h with rfl | rfl | rfl
     . exact .lock hi
     . exact .save hi
     . exact .state hi
   . simp only[zfX,List.mem_cons,List.not_mem_nil,or_false]at h
     rcases h with rfl | rfl
     . exact .chan hk
     . exact .qn hk
   . exact .port hk h
   . exact .tab hi h
 . intro h
   cases h with
   | bar=>exact .inl (.inl (.inl (by simp[bar])))
   | lock h=>exact .inl (.inl (.inr ⟨_,h,by simp[zfZ]⟩))
   | save h=>exact .inl (.inl (.inr ⟨_,h,by simp[zfZ]⟩))
   | state h=>exact .inl (.inl (.inr ⟨_,h,by simp[zfZ]⟩))
   | chan h=>exact .inl (.inr ⟨_,h,.inl (by simp[zfX])⟩)
   | qn h=>exact .inl (.inr ⟨_,h,.inl (by simp[zfX])⟩)
   | port h hx=>exact .inl (.inr ⟨_,h,.inr hx⟩)
   | tab h hx=>exact .inr ⟨_,h,hx⟩
theorem rep_mem{f i:Nat}{x:Pc} : ∀ {n},x ∈ rep f i n ↔ ∃ j,j<n/\x=(16*(f+j),16,⟨9,(i:Int),0⟩)
 | 0=>by simp[rep]
 | n+1=>by
  rw[rep,List.mem_append,rep_mem,List.mem_singleton]
  constructor
  . rintro (⟨j,hj,h⟩ | h)
    . exact⟨j,by omega,h⟩
    . exact⟨n,by omega,h⟩
  . rintro ⟨j,hj,h⟩
    by_cases hjn:j=n
    . subst hjn;exact .inr h
    . exact .inl ⟨j,by omega,h⟩
theorem zkb{s:Nat}{x:Pc} : ∀ {l:List LayoutEnd} {a:Nat},x ∈ za2 s a l->x.2.1=s/\∃ e ∈ l,x.2.2=⟨8,e.qk,e.port⟩
 | [],a,h=>by cases h
 | e :: l,a,h=>by
  rw[za2]at h
  rcases List.mem_cons.1 h with rfl | h
  . exact⟨rfl,e,by simp,rfl⟩
  . obtain ⟨h1,e',he,h2⟩:=zkb h
    exact⟨h1,e',by simp[he],h2⟩
def PcOk(c:za)(x:Pc):Prop:=x.2.2.kind=2 ∨ ((x.2.2.kind=3 ∨ x.2.2.kind=4 ∨ x.2.2.kind=5 ∨ x.2.2.kind=9)/\∃ j,j<nP c/\x.2.2.index=((j:Nat):Int)) ∨ ((x.2.2.kind=6 ∨ x.2.2.kind=7)/\∃ j,j<nC c/\x.2.2.index=((j:Nat):Int)) ∨ (x.2.2.kind=8/\1<=nC c)
theorem zFr{c:za}{x:Pc}(h:Is c x):PcOk c x:=by
 cases h with
 | bar=>exact .inl rfl
 | lock h=>exact .inr (.inl ⟨.inl rfl,_,h,rfl⟩)
 | save h=>exact .inr (.inl ⟨.inr (.inl rfl),_,h,rfl⟩)
 | state h=>exact .inr (.inl ⟨.inr (.inr (.inl rfl)),_,h,rfl⟩)
 | chan h=>exact .inr (.inr (.inl ⟨.inl rfl,_,h,rfl⟩))
 | qn h=>exact .inr (.inr (.inl ⟨.inr rfl,_,h,rfl⟩))
 | port h hx=>
  obtain ⟨_,e,_,h2⟩:=zkb hx
  exact .inr (.inr (.inr ⟨by rw[h2],by omega⟩))
 | tab h hx=>
  obtain ⟨j,hj,rfl⟩:=rep_mem.1 hx
  exact .inr (.inl ⟨.inr (.inr (.inr rfl)),_,h,rfl⟩)
structure Inv(c:za)(i:Nat)(x0:Int)(x4:List zk)(x5:List zF):Prop where
 ch:0<=x0/\(1<=nC c->x0<nC c)
 l4:x4.length=nP c
 l5:x5.length=nC c
 t : ∀ p ∈ x4,p.qs.length<=i
 d : ∀ p ∈ x5,p.qa.length<=i
theorem Inv.up{c:za}{i:Nat}{x0:Int}{x4:List zk}{x5:List zF}(h:Inv c i x0 x4 x5):Inv c (i+1) x0 x4 x5:=
 ⟨h.ch,h.l4,h.l5,fun p hp=>Nat.le_succ_of_le (h.t p hp),fun p hp=>Nat.le_succ_of_le (h.d p hp)⟩
theorem Inv.set4{c:za}{i:Nat}{x0:Int}{x4:List zk}{x5:List zF}(h:Inv c i x0 x4 x5){j:Nat}{y:zk}(hy:y.qs.length<=i+1):Inv c (i+1) x0 (List.set x4 j y) x5:=
 ⟨h.ch,by rw[List.length_set,h.l4],h.l5,fun p hp=>by
  rcases List.mem_or_eq_of_mem_set hp with hp | rfl
  . exact Nat.le_succ_of_le (h.t p hp)
  . exact hy,fun p hp=>Nat.le_succ_of_le (h.d p hp)⟩
theorem Inv.set5{c:za}{i:Nat}{x0:Int}{x4:List zk}{x5:List zF}(h:Inv c i x0 x4 x5){j:Nat}{y:zF}(hy:y.qa.length<=i+1):Inv c (i+1) x0 x4 (List.set x5 j y):=
 ⟨h.ch,h.l4,by rw[List.length_set,h.l5],fun p hp=>Nat.le_succ_of_le (h.t p hp),fun p hp=>by
  rcases List.mem_or_eq_of_mem_set hp with hp | rfl
  . exact Nat.le_succ_of_le (h.d p hp)
  . exact hy⟩
theorem Inv.setc{c:za}{i:Nat}{x0 y:Int}{x4:List zk}{x5:List zF}(h:Inv c i x0 x4 x5)(hy:0<=y/\(1<=nC c->y<nC c)):Inv c i y x4 x5:=⟨hy,h.l4,h.l5,h.t,h.d⟩
theorem zzw{xs:List zk}{i:Nat}(h:i<xs.length):zn xs i ∈ xs:=by
 simp[zn,List.getD,h]
theorem zlZ{xs:List zF}{i:Nat}(h:i<xs.length):zH xs i ∈ xs:=by
 simp[zH,List.getD,h]
theorem zrE{xs:List Pc}{i:Nat}(h:i<xs.length):zbB (xs.map mkR) i=mkR xs[i]:=by
 simp[zbB,List.getD,h]
theorem zbD{x:Int}{n:Nat}(h0:0<=x)(h1:x<n):zO x n=true:=by
 obtain ⟨m,rfl⟩:=Int.eq_ofNat_of_zero_le h0
 exact zo (by omega)
noncomputable def zdR(xs:List zk)(x:Pc):List zk:=
 let j:=x.2.2.index.toNat
 let y:=zn xs j
 if x.2.2.kind=3 then List.set xs j ⟨(x.1:Int),y.save,y.state,y.root,y.qs⟩
 else if x.2.2.kind=4 then List.set xs j ⟨y.lock,(x.1:Int),y.state,y.root,y.qs⟩
 else if x.2.2.kind=5 then List.set xs j ⟨y.lock,y.save,(x.1:Int),y.root,y.qs⟩
 else if x.2.2.kind=9 then(if y.root=0 then List.set xs j ⟨y.lock,y.save,y.state,((x.1 / 16:Nat):Int),y.qs⟩else List.set xs j ⟨y.lock,y.save,y.state,y.root,y.qs++[((x.1 / 16:Nat):Int)]⟩)
 else xs
noncomputable def FL(c:za)(f:Nat->zk):List zk:=(List.range (nP c)).map f
noncomputable def zlw(y:zk)(x:Pc):zk:=
 if x.2.2.kind=3 then⟨(x.1:Int),y.save,y.state,y.root,y.qs⟩
 else if x.2.2.kind=4 then⟨y.lock,(x.1:Int),y.state,y.root,y.qs⟩
 else if x.2.2.kind=5 then⟨y.lock,y.save,(x.1:Int),y.root,y.qs⟩
 else if x.2.2.kind=9 then(if y.root=0 then⟨y.lock,y.save,y.state,((x.1 / 16:Nat):Int),y.qs⟩else⟨y.lock,y.save,y.state,y.root,y.qs++[((x.1 / 16:Nat):Int)]⟩)
 else y
noncomputable def zcm(q:Nat)(y:zk)(x:Pc):zk:=if x.2.2.index=(q:Int)then zlw y x else y
theorem zLd{c:za}{f:Nat->zk}{j:Nat}(h:j<nP c):zn (FL c f) j=f j:=by
 simp[zn,List.getD,FL,h]
theorem zGf{c:za}{f:Nat->zk}{j:Nat}{y:zk}(h:j<nP c):List.set (FL c f) j y=FL c (fun q=>if q=j then y else f q):=by
 apply List.ext_getElem
 . simp[FL]
 . intro i h1 h2
   simp only[FL,List.getElem_set,List.getElem_map,List.getElem_range]
   by_cases hij:j=i
   . subst hij;simp
   . rw[if_neg hij,if_neg (fun e=>hij e.symm)]
theorem zpN{c:za}{f g:Nat->zk}(h : ∀ q,q<nP c->f q=g q):FL c f=FL c g:=by
 unfold FL
 apply List.map_congr_left
 intro q hq
 exact h q (by simpa using hq)
theorem zJ8{c:za}{f:Nat->zk}{x:Pc}(hx:Is c x):zdR (FL c f) x=FL c (fun q=>zcm q (f q) x):=by
 have other:x.2.2.kind ≠ 3->x.2.2.kind ≠ 4->x.2.2.kind ≠ 5->x.2.2.kind ≠ 9->zdR (FL c f) x=FL c (fun q=>zcm q (f q) x):=fun h3 h4 h5 h9=>by
  unfold zdR
  simp only[if_neg h3,if_neg h4,if_neg h5,if_neg h9]
  refine zpN fun q _=>?_
  unfold zcm zlw
  simp only[if_neg h3,if_neg h4,if_neg h5,if_neg h9]
  split <;> rfl
 rcases zFr hx with k | ⟨k,j,hj,ij⟩ | ⟨k,_⟩ | ⟨k,_⟩
 . exact other (by omega) (by omega) (by omega) (by omega)
 . have hst : ∀ y:zk,y=zlw (f j) x->List.set (FL c f) j y=FL c (fun q=>zcm q (f q) x):=fun y hy=>by
    rw[zGf hj,hy]
    refine zpN fun q _=>?_
    unfold zcm
    rw[ij]
    by_cases hq:q=j
    . subst hq;rw[if_pos rfl,if_pos rfl]
    . rw[if_neg hq,if_neg (fun e=>hq (by omega))]
   unfold zdR
   simp only[ij,tnC,zLd hj]
   rcases k with k | k | k | k
   . rw[k];exact hst _ (by unfold zlw;rw[k];rfl)
   . rw[k];exact hst _ (by unfold zlw;rw[k];rfl)
   . rw[k];exact hst _ (by unfold zlw;rw[k];rfl)
   . rw[k]
     show(if(f j).root=0 then _ else _)=_
     split
     . rename_i hr;exact hst _ (by unfold zlw;rw[k];show _=(if(f j).root=0 then _ else _);rw[if_pos hr])
     . rename_i hr;exact hst _ (by unfold zlw;rw[k];show _=(if(f j).root=0 then _ else _);rw[if_neg hr])
 . exact other (by omega) (by omega) (by omega) (by omega)
 . exact other (by omega) (by omega) (by omega) (by omega)
theorem zvu{c:za} : ∀ (l:List Pc),(∀ x ∈ l,Is c x)->∀ f:Nat->zk,l.foldl zdR (FL c f)=FL c (fun q=>l.foldl (zcm q) (f q))
 | [],_,f=>rfl
 | x :: l,h,f=>by
  rw[List.foldl_cons,zJ8 (h x (List.mem_cons_self ..)),zvu l (fun x hx=>h x (List.mem_cons_of_mem _ hx))]
  rfl
def zln:zk:=⟨0,0,0,0,[]⟩
theorem zhs{q:Nat}{l:List Pc}:(∀ x ∈ l,∀ y,zcm q y x=y)->∀ y,l.foldl (zcm q) y=y:=by
 induction l with
 | nil=>intro _ y;rfl
 | cons x l ih=>intro h y;rw[List.foldl_cons,h x (List.mem_cons_self ..),ih (fun x hx=>h x (List.mem_cons_of_mem _ hx))]
theorem zpG{q:Nat}{x:Pc}(h:x.2.2.kind=2 ∨ x.2.2.kind=6 ∨ x.2.2.kind=7 ∨ x.2.2.kind=8)(y:zk):zcm q y x=y:=by
 unfold zcm zlw
 rw[if_neg (show ¬ x.2.2.kind=3 by omega),if_neg (show ¬ x.2.2.kind=4 by omega),if_neg (show ¬ x.2.2.kind=5 by omega),if_neg (show ¬ x.2.2.kind=9 by omega)]
 split <;> rfl
theorem znL{q:Nat}{x:Pc}{j:Nat}(h:x.2.2.index=(j:Int))(hj:j ≠ q)(y:zk):zcm q y x=y:=by
 unfold zcm
 rw[if_neg (by omega)]
theorem zmd(c:za)(q:Nat) : ∀ n,(zb7 c n).foldl (zcm q) zln=if q<n then base c q else zln
 | 0=>rfl
 | n + 1=>by
  rw[zb7,List.foldl_append,zmd c q n]
  by_cases hq:q=n
  . subst hq
    rw[if_neg (Nat.lt_irrefl _),if_pos (Nat.lt_succ_self _)]
    simp only[zfZ,List.foldl_cons,List.foldl_nil,zcm,if_true,zlw,base,zln]
    rfl
  . have e : ∀ y,(zfZ c n).foldl (zcm q) y=y:=zhs fun x hx y=>by
     simp only[zfZ,List.mem_cons,List.not_mem_nil,or_false]at hx
     rcases hx with rfl | rfl | rfl <;> exact znL (j:=n) rfl (fun e=>hq e.symm) y
    rw[e]
    by_cases h:q<n
    . rw[if_pos h,if_pos (by omega)]
    . rw[if_neg h,if_neg (by omega)]
theorem zui(c:za)(q:Nat)(y:zk)(n:Nat):(zdc c n).foldl (zcm q) y=y:=by
 refine zhs (fun x hx y=>zpG ?_ y) y
 obtain ⟨k,_,h | h⟩:=(zjS c n).1 hx
 . simp only[zfX,List.mem_cons,List.not_mem_nil,or_false]at h
   rcases h with rfl | rfl
   . exact .inr (.inl rfl)
   . exact .inr (.inr (.inl rfl))
 . obtain ⟨_,e,_,h2⟩:=zkb h
   exact .inr (.inr (.inr (by rw[h2])))
theorem zr1(c:za)(q:Nat)(f:Nat)(hf:1<=f) : ∀ m,(rep f q (m+1)).foldl (zcm q) (base c q)=⟨(base c q).lock,(base c q).save,(base c q).state,(f:Int),zhB f m⟩
 | 0=>by
  have e:(16*(f+0)) / 16=f:=by omega
  simp only[rep,List.nil_append,List.foldl_cons,List.foldl_nil,zcm,if_true,zlw,base]
  rw[e]
  rfl
 | m+1=>by
  have e:(16*(f+(m+1))) / 16=f+1+m:=by omega
  rw[rep,List.foldl_append,zr1 c q f hf m]
  simp only[List.foldl_cons,List.foldl_nil,zcm,if_true,zlw]
  rw[show zhB f (m+1)=zhB f m++[((f+1+m:Nat):Int)]from zbu _ _,e]
  have h0 : ¬ ((f:Nat):Int)=0:=by omega
  rw[if_neg h0]
  rfl
theorem zCp(c:za) : ∀ i,1<=tF c i
 | 0=>by
  rw[tF]
  have h : ∀ n,2<=cAt c n:=by
   intro n
   induction n with
   | zero=>rw[cAt,pAt];omega
   | succ n ih=>rw[cAt];omega
  have:=h (nC c)
  omega
 | i+1=>by rw[tF];have:=zCp c i;omega
theorem zoE(c:za)(q:Nat) : ∀ n,(zeF c n).foldl (zcm q) (base c q)=if q<n then full c q else base c q
 | 0=>rfl
 | n + 1=>by
  rw[zeF,List.foldl_append,zoE c q n]
  by_cases hq:q=n
  . subst hq
    rw[if_neg (Nat.lt_irrefl _),if_pos (Nat.lt_succ_self _),show 1+zbv (P c q)=zbv (P c q)+1 by omega,zr1 c q _ (zCp c q)]
    rfl
  . have e : ∀ y,(rep (tF c n) n (1+zbv (P c n))).foldl (zcm q) y=y:=zhs fun x hx y=>by
     obtain ⟨j,_,rfl⟩:=rep_mem.1 hx
     exact znL (j:=n) rfl (fun e=>hq e.symm) y
    rw[e]
    by_cases h:q<n
    . rw[if_pos h,if_pos (by omega)]
    . rw[if_neg h,if_neg (by omega)]
theorem zAE(c:za):(zaG c).foldl zdR (List.replicate (nP c) zln)=plT c (nP c):=by
 have e0:List.replicate (nP c) zln=FL c fun _=>zln:=by
  unfold FL;rw[List.map_const',List.length_range]
 rw[e0,zvu _ (fun x hx=>ref_mem.1 hx)]
 refine zpN fun q hq=>?_
 unfold zaG
 rw[List.foldl_append,List.foldl_append,List.foldl_append]
 have hb:(bar c).foldl (zcm q) zln=zln:=zhs (fun x hx y=>zpG (by rw[bar,List.mem_singleton]at hx;subst hx;exact .inl rfl) y) _
 rw[hb,zmd,if_pos hq,zui,zoE,if_pos hq]
section
variable {c:za} (g:zaz c) (hk:0<=c.kernel/\c.kernel<1024)
include g hk
theorem zvT{x:Pc}(hx:x ∈ zaG c):x.1+x.2.1<=48000:=by
 have h1:=((zmo c).in_ x hx).2
 have h2:=zpH g hk (Nat.le_refl (nP c))
 omega
theorem zvK {i:Nat} (hi:i<(zaG c).length) {x0 x1 x3:Int} {x4:List zk} {x5:List zF} (h:Inv c i x0 x4 x5) (hi4:i<=4000) : ∃ x0' x3' x5',Inv c (i+1) x0' (zdR x4 (zaG c)[i]) x5'/\zjh c (.l4 ((zaG c).map mkR) x0 x1 (i:Int) x3 x4 x5)=zjh c (.l4 ((zaG c).map mkR) x0' (((zaG c)[i].1+(zaG c)[i].2.1:Nat):Int) ((i+1:Nat):Int) x3' (zdR x4 (zaG c)[i]) x5'):=by
 have p1':zjv c=some ((zaG c).map mkR):=(zi2 g hk)
 have hm:(zaG c)[i] ∈ zaG c:=List.getElem_mem hi
 have he:=zvT g hk hm
 have e81 : ∀ (a b d:Int) x y,zjh c (.l81 ((zaG c).map mkR) a b (i:Int) d x y)=zjh c (.l4 ((zaG c).map mkR) a b ((i+1:Nat):Int) d x y):=fun a b d x y=>by
  rw[zgK]
  simp only[zl3,zj i (show i<4611686018427387904 by omega),Tree.run,qY]
 have hl:i<((zaG c).map mkR).length:=by rw[List.length_map];exact hi
 have ew:i64.wrap ((mkR (zaG c)[i]).at_+(mkR (zaG c)[i]).size)=(((zaG c)[i].1+(zaG c)[i].2.1:Nat):Int):=zz _ _ (by simp only[mkR];omega) (by omega)
 have hr : ∀ {x:Int} {n:Nat},0<=x->x<n->zO x n=true:=zbD
 have hok:=zFr (ref_mem.1 hm)
 have eq16:bop .quo .i64 (((zaG c)[i].1:Nat):Int) 16=(((zaG c)[i].1 / 16:Nat):Int):=zch _ (by omega)
 rw[zgK]
 simp only[zl3,p1',tnC,zY hl,zo hl,cnT,zrE hi,ew,e81,Nat.beq_refl,Tree.run,qY]
 have ho:(mkR (zaG c)[i]).qT=(zaG c)[i].2.2:=rfl
 have ha:(mkR (zaG c)[i]).at_=(((zaG c)[i].1:Nat):Int):=rfl
 rw[ho,ha,eq16]
 have h4:=h.l4
 have h5:=h.l5
 generalize (zaG c)[i]=x at *
 rcases hok with k | ⟨k,j,hj,ij⟩ | ⟨k,j,hj,ij⟩ | ⟨k,hc⟩
 . have e:zdR x4 x=x4:=by unfold zdR;rw[k];rfl
   rw[e,k];refine⟨_,_,_,?_,rfl⟩;exact h.up
 . have hj4:j<x4.length:=by omega
   have hmem:=h.t _ (zzw hj4)
   rw[ij]
   simp only[zo hj4,tnC,cnT]
   rcases k with k | k | k | k
   . have e:zdR x4 x=List.set x4 j ⟨(x.1:Int),(zn x4 j).save,(zn x4 j).state,(zn x4 j).root,(zn x4 j).qs⟩:=by unfold zdR;rw[k,ij];rfl
     rw[e,k];refine⟨_,_,_,?_,rfl⟩;exact h.set4 (Nat.le_succ_of_le hmem)
   . have e:zdR x4 x=List.set x4 j ⟨(zn x4 j).lock,(x.1:Int),(zn x4 j).state,(zn x4 j).root,(zn x4 j).qs⟩:=by unfold zdR;rw[k,ij];rfl
     rw[e,k];refine⟨_,_,_,?_,rfl⟩;exact h.set4 (Nat.le_succ_of_le hmem)
   . have e:zdR x4 x=List.set x4 j ⟨(zn x4 j).lock,(zn x4 j).save,(x.1:Int),(zn x4 j).root,(zn x4 j).qs⟩:=by unfold zdR;rw[k,ij];rfl
     rw[e,k];refine⟨_,_,_,?_,rfl⟩;exact h.set4 (Nat.le_succ_of_le hmem)
   . have b1 : ∀ y:Int,leB (((zn x4 j).qs.length + [y].length)*8) 140737488355328=true:=zeN (by omega) (by omega)
     simp only[b1,cnT]
     by_cases hroot:(zn x4 j).root=0
     . have e:zdR x4 x=List.set x4 j ⟨(zn x4 j).lock,(zn x4 j).save,(zn x4 j).state,((x.1 / 16:Nat):Int),(zn x4 j).qs⟩:=by
        unfold zdR;rw[k,ij]
        show(if(zn x4 j).root=0 then _ else _)=_
        rw[if_pos hroot];rfl
       have hb:((zn x4 j).root==0)=true:=by rw[hroot];rfl
       rw[e,k,hb];refine⟨_,_,_,?_,rfl⟩;exact h.set4 (Nat.le_succ_of_le hmem)
     . have e:zdR x4 x=List.set x4 j ⟨(zn x4 j).lock,(zn x4 j).save,(zn x4 j).state,(zn x4 j).root,(zn x4 j).qs++[((x.1 / 16:Nat):Int)]⟩:=by
        unfold zdR;rw[k,ij]
        show(if(zn x4 j).root=0 then _ else _)=_
        rw[if_neg hroot];rfl
       have hb:((zn x4 j).root==0)=false:=beq_eq_false_iff_ne.2 hroot
       rw[e,k,hb];refine⟨_,_,_,?_,rfl⟩;exact h.set4 (by rw[List.length_append];exact Nat.succ_le_succ hmem)
 . have hj5:j<x5.length:=by omega
   have hmem:=h.d _ (zlZ hj5)
   have e:zdR x4 x=x4:=by unfold zdR;rcases k with k | k <;> rw[k] <;> rfl
   rw[e,ij]
   simp only[zo hj5,tnC,cnT]
   rcases k with k | k
   . rw[k];refine⟨_,_,_,?_,rfl⟩;exact Inv.setc (x0:=x0) (h.set5 (Nat.le_succ_of_le hmem)) ⟨Int.natCast_nonneg _,fun _=>Int.ofNat_lt.2 hj⟩
   . rw[k];refine⟨_,_,_,?_,rfl⟩;exact h.set5 (Nat.le_succ_of_le hmem)
 . obtain ⟨c1,c2⟩:=h.ch
   have c2:=c2 hc
   have hmem:=h.d _ (zlZ (xs:=x5) (i:=x0.toNat) (by omega))
   have b1 : ∀ y:zaX,leB (((zH x5 x0.toNat).qa.length + [y].length)*24) 140737488355328=true:=zeN (by omega) (by omega)
   have e:zdR x4 x=x4:=by unfold zdR;rw[k];rfl
   rw[e,k]
   simp only[hr c1 (show x0<(x5.length:Nat)by omega),b1,cnT]
   refine⟨_,_,_,?_,rfl⟩;exact h.set5 (by rw[List.length_append];exact Nat.succ_le_succ hmem)
end
theorem zBY{c:za}(g:zaz c)(h:Int) : ∃ r,zCb c h=some r:=by
 have hP:=g.few.parts
 have outer : ∀ m q,q+m=nP c->∃ r,zs8 c h (.l0 (q:Int))=some r:=by
  intro m
  induction m with
  | zero=>
   intro q hq
   have hf:decide ((q:Int)<(c.qq.length:Int))=false:=z8 (by unfold nP at hq;omega)
   exact⟨_,by rw[zjo];simp only[zoo,hf,cnF,Tree.run,qY];rfl⟩
  | succ m ih=>
   intro q hq
   have hq':q<c.qq.length:=by unfold nP at hq;omega
   have hn:=g.few.qt q hq'
   obtain ⟨r,hr⟩:=ih (q+1) (by omega)
   have inner : ∀ m i,i+m=zaa c q->∃ r,zs8 c h (.l4 (q:Int) (q:Int) (zaa c q) (i:Int))=some r:=by
    intro m
    induction m with
    | zero=>
     intro i hi
     have hf:decide ((i:Int)<(zaa c q:Int))=false:=z8 (by omega)
     exact⟨r,by rw[zjo];simp only[zoo,hf,cnF,zj q (show q<4611686018427387904 by omega),Tree.run,qY];exact hr⟩
    | succ m ih'=>
     intro i hi
     have hi':i<(zb c.qq q).qt.length:=by have:zaa c q=(zb c.qq q).qt.length:=rfl;omega
     obtain ⟨r',hr'⟩:=ih' (i+1) (by omega)
     have ht:decide ((i:Int)<(zaa c q:Int))=true:=zY (by omega)
     rw[zjo]
     simp only[zoo,tnC,ht,zo hi',zo hq',cnT,zj i (show i<4611686018427387904 by omega),hr',Tree.run,qY]
     cases (zbe (zb c.qq q).qt i).ql==h <;> cases (zbe (zb c.qq q).qt i).qb <;> exact⟨_,rfl⟩
   obtain ⟨r',hr'⟩:=inner _ 0 (Nat.zero_add _)
   refine⟨r',?_⟩
   rw[zjo]
   simp only[zoo,tnC,zY hq',zo hq',cnT,Tree.run,qY]
   exact hr'
 exact outer _ 0 (Nat.zero_add _)
section
variable {c:za} (g:zaz c) (hk:0<=c.kernel/\c.kernel<1024)
include g hk
theorem zvU:(zaG c).length<=400:=zBI g (qD)
theorem zsE : ∃ l x,zaG c=l++[x]/\x.1+x.2.1=16*tF c (nP c):=by
 obtain ⟨n,hn⟩ : ∃ n,nP c=n+1:=⟨nP c-1,by have:=g.least;unfold nP;omega⟩
 unfold zaG
 rw[hn,zeF,show 1+zbv (P c n)=zbv (P c n)+1 by omega,rep]
 exact⟨_,_,by rw[← List.append_assoc,← List.append_assoc],by rw[tF];simp only;omega⟩
theorem zHl:bop .quo .i64 (i64.wrap (i64.wrap (((16*tF c (nP c):Nat):Int)+16)-1)) 16=(tF c (nP c):Int):=by
 have ht:=zpH g hk (Nat.le_refl (nP c))
 have e1:i64.wrap (((16*tF c (nP c):Nat):Int)+16)=((16*tF c (nP c)+16:Nat):Int):=zz _ _ (by omega) (by omega)
 have e2:i64.wrap (((16*tF c (nP c)+16:Nat):Int)-1)=((16*tF c (nP c)+15:Nat):Int):=zz _ _ (by omega) (by omega)
 rw[e1,e2,zch _ (by omega)]
 omega
theorem zDW : ∀ m i,i+(m+1)=(zaG c).length->∀ (x0 x1 x3:Int) (x4:List zk) (x5:List zF),Inv c i x0 x4 x5->∃ L:zaR,zjh c (.l4 ((zaG c).map mkR) x0 x1 (i:Int) x3 x4 x5)=some (L,0)/\L.end_=(tF c (nP c):Int)/\L.qq=((zaG c).drop i).foldl zdR x4:=by
 have hlen:=zvU g hk
 intro m
 induction m with
 | zero=>
  intro i hi x0 x1 x3 x4 x5 h
  have hil:i<(zaG c).length:=by omega
  obtain ⟨x0',x3',x5',h',e⟩:=zvK g hk hil (x0:=x0) (x1:=x1) (x3:=x3) h (by omega)
  obtain ⟨l,x,hl,hx⟩:=zsE g hk
  have hg : ∀ h:i<(zaG c).length,(zaG c)[i]=x:=by
   rw[hl]at hi ⊢
   intro h
   have hil:i=l.length:=by rw[List.length_append,qO]at hi;omega
   subst hil
   simp
  have p1':zjv c=some ((zaG c).map mkR):=(zi2 g hk)
  rw[e,List.drop_eq_getElem_cons hil,List.drop_eq_nil_of_le (show(zaG c).length<=i+1 by omega),hg,hx]
  have hf:decide (((i+1:Nat):Int)<(((zaG c).map mkR).length:Int))=false:=z8 (by rw[List.length_map];omega)
  rw[zgK]
  simp only[zl3,p1',hf,cnF,zHl g hk,id,Tree.run,qY]
  exact⟨_,rfl,rfl,rfl⟩
 | succ m ih=>
  intro i hi x0 x1 x3 x4 x5 h
  have hil:i<(zaG c).length:=by omega
  obtain ⟨x0',x3',x5',h',e⟩:=zvK g hk hil (x0:=x0) (x1:=x1) (x3:=x3) h (by omega)
  rw[e,List.drop_eq_getElem_cons hil]
  exact ih (i+1) (by omega) _ _ _ _ _ h'
theorem zBh : ∀ m k,k+m=nC c->∀ xs:List zF,xs.length=nC c->(∀ p ∈ xs,p.qa.length<=0)->∃ L:zaR,zjh c (.l0 (k:Int) xs)=some (L,0)/\L.end_=(tF c (nP c):Int)/\L.qq=plT c (nP c):=by
 have hC:=g.chans
 have hP:=g.few.parts
 intro m
 induction m with
 | zero=>
  intro k hk' xs hx hd
  have p1':zjv c=some ((zaG c).map mkR):=zi2 g hk
  have hf:decide ((k:Int)<(c.qw.length:Int))=false:=z8 (by unfold nC at hk';omega)
  rw[zgK]
  simp only[zl3,hf,p1',cnF,cnT,tnC,Tree.run,qY]
  obtain ⟨l,x,hl,_⟩:=zsE g hk
  rw[← zAE]
  refine zDW g hk ((zaG c).length-1) 0 (by rw[hl,List.length_append,qO];omega) _ _ _ _ _ ⟨⟨Int.le_refl _,fun h=>by omega⟩,by rw[List.length_replicate];rfl,hx,fun p hp=>?_,hd⟩
  rw[(List.mem_replicate.1 hp).2];exact qD
 | succ m ih=>
  intro k hk' xs hx hd
  have hkk:k<c.qw.length:=by unfold nC at hk';omega
  obtain ⟨r,hr⟩:=zBY g (k:Int)
  have hkx:k<xs.length:=by omega
  have hl2 : ∀ y,k<(List.set xs k y).length:=fun y=>by rw[List.length_set];exact hkx
  rw[zgK]
  simp only[zl3,tnC,zY hkk,hr,zo hkx,zo (hl2 _),cnT,zj k (show k<4611686018427387904 by omega),Tree.run,qY]
  refine ih (k+1) (by omega) _ (by rw[List.length_set,List.length_set];exact hx) fun p hp=>?_
  have h0:=hd _ (zlZ hkx)
  rcases List.mem_or_eq_of_mem_set hp with hp | rfl
  . rcases List.mem_or_eq_of_mem_set hp with hp | rfl
    . exact hd p hp
    . exact h0
  . have e:zH (List.set xs k ⟨(zH xs k).lock,(zH xs k).qn,r.1,(zH xs k).port,(zH xs k).qa⟩) k=⟨(zH xs k).lock,(zH xs k).qn,r.1,(zH xs k).port,(zH xs k).qa⟩:=by
     simp[zH,List.getD,List.getElem?_set,hkx]
    show(zH (List.set xs k _) k).qa.length<=0
    rw[e];exact h0
theorem zDX : ∃ L:zaR,zgU c=some (L,0)/\L.end_=(tF c (nP c):Int)/\L.qq=plT c (nP c):=by
 have k1':znG c=some true:=zFo g hk
 have hC:=g.chans
 have hP:=g.few.parts
 unfold zgU zEX
 dsimp only [Tree.run0,Tree.run]
 rw[k1',qY,Bool.not_true,cnF,zAW _ _ (by unfold B47;omega),zAW _ _ (by unfold B47;omega),cnT,cnT,tnC]
 exact zBh g hk (nC c) 0 (Nat.zero_add _) _ (by rw[List.length_replicate];rfl) fun p hp=>by rw[(List.mem_replicate.1 hp).2];exact qD
theorem zH3:znl c=some ((tF c (nP c):Int)-c.kernel,0):=by
 obtain ⟨L,h1,h2,_⟩:=zDX g hk
 have k1':zgU c=some (L,0):=h1
 have ht:=zpH g hk (Nat.le_refl (nP c))
 unfold znl
 dsimp only [Tree.run0,Tree.run]
 rw[k1',qY,h2,zam _ (by omega) (by omega)]
 rfl
theorem zH2:znp c=some ((tF c (nP c):Int)-c.kernel,0):=by
 have k1':zc4 c=some (lay c,0):=zsd g hk
 have ht:=zpH g hk (Nat.le_refl (nP c))
 unfold znp
 dsimp only [Tree.run0,Tree.run]
 rw[k1',qY,show(lay c,(0:Int)).1.end_=(tF c (nP c):Int)from rfl,zam _ (by omega) (by omega)]
 rfl
end
noncomputable def kin(c:za):Bool:=decide (0<=c.kernel)&&decide (c.kernel<=i64.wrap (c.qr-1))
noncomputable def rin(c:za):Bool:=decide (1<=c.room)&&decide (c.room<=i64.wrap (c.qr-c.kernel))
noncomputable def kmq(c:za)(p k:Nat):Bool:=zgn (Rg c p k).frame (Rg c p k).qc c.kernel c.room
noncomputable def zoI(c:za):Bool:=(List.range (nP c)).any fun p=>(List.range (zaI c p)).any (kmq c p)
noncomputable def zmk(c:za):Bool:=kin c&&(rin c&&(!(zoI c)&&decide ((tF c (nP c):Int)-c.kernel<=c.room)))
theorem zAP{c:za}(g:zaz c)(h:kin c=true):0<=c.kernel/\c.kernel<1024:=by
 have hf:=g.qr
 unfold kin at h
 rw[zam _ (by omega) (by omega)]at h
 simp only[qH,qG]at h
 omega
theorem zG0{c:za}(g:zaz c):zpz c=some (zmk c):=by
 have hP:=g.few.parts
 unfold zpz zFc zmk
 dsimp only [Tree.run0,Tree.run]
 rw[zj2,zj2]
 show cond (!(kin c)) _ (cond (!(rin c)) _ _)=_
 cases h1:kin c with
 | false=>rfl
 | true=>
 cases h2:rin c with
 | false=>rfl
 | true=>
 rw[Bool.not_true,cnF,cnF,Bool.true_and,Bool.true_and]
 have hk:=zAP g h1
 have h:=zao (n:=nP c) (f:=fun p=>zps c (.l0 (p:Int))) (q:=fun p=>(List.range (zaI c p)).any (kmq c p)) (r:=some false) (e:=some (decide ((tF c (nP c):Int)-c.kernel<=c.room))) (fun p hp=>by
  have hp':p<c.qq.length:=hp
  have hn:=(g.nregs p hp').2
  have hin:=zao (n:=zaI c p) (f:=fun k=>zps c (.l4 (p:Int) (k:Int))) (q:=kmq c p) (r:=some false) (e:=zps c (.l0 ((p+1:Nat):Int))) (fun k hkk=>by
   have hkk':k<(zb c.qq p).qe.length:=hkk
   rw[zjn]
   simp only[zon,tnC,zo hp',zY hkk',zo hkk',cnT,zj k (show k<4611686018427387904 by omega),Tree.run,qY]
   rfl) (by
   have hf:decide ((zaI c p:Int)<((zb c.qq p).qe.length:Int))=false:=z8 (qD)
   rw[zjn]
   simp only[zon,tnC,zo hp',hf,cnT,cnF,zj p (show p<4611686018427387904 by omega),Tree.run,qY])
  refine Eq.trans ?_ hin
  rw[zjn]
  simp only[zon,zY hp',cnT,Tree.run,qY]
  rfl) (by
  have k1':znl c=some _:=zH3 g hk
  have hf:decide ((nP c:Int)<(c.qq.length:Int))=false:=z8 (qD)
  rw[zjn]
  simp only[zon,hf,cnF,k1',cnT,Tree.run,qY]
  rfl)
 refine Eq.trans h ?_
 show cond (zoI c) _ _=_
 cases zoI c <;> rfl
theorem zAO{c:za}(g:zaz c):zkn c=some (zmk c):=by
 have hP:=g.few.parts
 unfold zkn zz4 zmk
 dsimp only [Tree.run0,Tree.run]
 rw[zfJ,zfJ]
 show cond (!(kin c)) _ (cond (!(rin c)) _ _)=_
 cases h1:kin c with
 | false=>rfl
 | true=>
 cases h2:rin c with
 | false=>rfl
 | true=>
 rw[Bool.not_true,cnF,cnF,Bool.true_and,Bool.true_and]
 have hk:=zAP g h1
 have h:=zao (n:=nP c) (f:=fun p=>zki c (.l0 (p:Int))) (q:=fun p=>(List.range (zaI c p)).any (kmq c p)) (r:=some false) (e:=some (decide ((tF c (nP c):Int)-c.kernel<=c.room))) (fun p hp=>by
  have hp':p<c.qq.length:=hp
  have hn:=(g.nregs p hp').2
  have hin:=zao (n:=zaI c p) (f:=fun k=>zki c (.l4 (p:Int) (P c p).qe (zaI c p) (k:Int))) (q:=kmq c p) (r:=some false) (e:=zki c (.l0 ((p+1:Nat):Int))) (fun k hkk=>by
   have hkk':k<(P c p).qe.length:=hkk
   rw[zhk]
   simp only[zjJ,tnC,zY hkk,zo hkk',cnT,zj k (show k<4611686018427387904 by omega),Tree.run,qY]
   rfl) (by
   rw[zhk]
   simp only[zjJ,z8 (qD),cnF,zj p (show p<4611686018427387904 by omega),Tree.run,qY])
  refine Eq.trans ?_ hin
  rw[zhk]
  simp only[zjJ,tnC,zY hp',zo hp',cnT,Tree.run,qY]
  rfl) (by
  have k1':znp c=some _:=zH2 g hk
  have hf:decide ((nP c:Int)<(c.qq.length:Int))=false:=z8 (qD)
  rw[zhk]
  simp only[zjJ,hf,cnF,k1',cnT,Tree.run,qY]
  rfl)
 refine Eq.trans h ?_
 show cond (zoI c) _ _=_
 cases zoI c <;> rfl
noncomputable def zbK(c:za):Bool:=zlt c&&zmk c
theorem zlR{c:za}(hc:zcr c):zc6 (zfv c) (zbK c):=zDo hc fun h=>zG0 (zqs hc h)
theorem zjC{c:za}(hc:zcr c):zc6 (zdK c) (zbK c):=zDn hc fun h=>zAO (zqs hc h)
theorem zkR(s:Nat) : ∀ (l:List LayoutEnd) (a j:Nat),j<l.length->zcI (zb5 s a l) j=⟨(zZ l j).qk,(zZ l j).port,((a+j*s:Nat):Int)⟩
 | [],_,_,h=>by simp at h
 | e :: l,a,0,h=>by simp[zb5,zcI,zZ]
 | e :: l,a,j+1,h=>by
  have:=zkR s l (a+s) j (by simpa using h)
  rw[show a+s+j*s=a+(j+1)*s by rw[Nat.add_mul];omega]at this
  exact this
theorem zG7{c:za}{n k:Nat}(hk:k<n):zH (chL c n) k=zxy c k:=by
 simp[zH,List.getD,chL,hk]
theorem zwx{f n j:Nat}(hj:j<n):zt (zhB f n) j=((f+1+j:Nat):Int):=by
 simp[zt,List.getD,zhB,hj]
section
variable {c:za} (g:zaz c) (hk:0<=c.kernel/\c.kernel<1024)
include g hk
end
theorem zfk{α R:Type}{l:List α}{f:Nat->Option R}{q:α->Bool}{g:α->Option R}{e:Option R}(hs : ∀ i (h:i<l.length),f i=cond (q l[i]) (g l[i]) (f (i+1)))(he:f l.length=e):f 0=match l.find? q with | some x=>g x | none=>e:=by
 have : ∀ m i,i+m=l.length->f i=match(l.drop i).find? q with | some x=>g x | none=>e:=by
  intro m
  induction m with
  | zero=>
   intro i hi
   rw[Nat.add_zero]at hi
   subst hi
   simp[he]
  | succ m ih=>
   intro i hi
   have hl:i<l.length:=by omega
   rw[hs i hl,ih (i+1) (by omega),List.drop_eq_getElem_cons hl,List.find?_cons]
   cases q l[i] <;> rfl
 have h:=this l.length 0 (Nat.zero_add _)
 rwa [List.drop_zero]at h
noncomputable def zhy(c:za)(f:Nat)(p k:Nat):Bool:=decide ((Rg c p k).frame<=f)&&decide ((f:Int)<(Rg c p k).frame+(Rg c p k).qc)
noncomputable def zBL(c:za)(f:Nat):Option Nat:=(List.range (nP c)).find? fun p=>(List.range (zaI c p)).any (zhy c f p)
noncomputable def own(c:za)(a:Nat):zaF:=match(zaG c).find? (fun x=>inP x a)with
 | some x=>x.2.2
 | none=>match zBL c (a / 16)with
  | some p=>⟨1,(p:Int),0⟩
  | none=>⟨0,0,0⟩
section
variable {c:za} (g:zaz c) (hk:0<=c.kernel/\c.kernel<1024)
include g
theorem zBM{p k:Nat}(hp:p<nP c)(hkk:k<zaI c p):0<=(Rg c p k).frame/\1<=(Rg c p k).qc/\(Rg c p k).frame+(Rg c p k).qc<=1024/\i64.wrap ((Rg c p k).frame+(Rg c p k).qc)=(Rg c p k).frame+(Rg c p k).qc:=by
 have h:=g.qz p k hp hkk
 obtain ⟨h1,h2⟩:=h.ok.qc
 have h3:=h.frame
 have h4:=h.fits
 have h5:=g.qr
 exact⟨h3,h1,by omega,zam _ (by omega) (by omega)⟩
theorem zn7{a:Nat}(ha:a<100000):zjf c (a:Int) (.l4 0)=some (match zBL c (a / 16)with | some p=>⟨1,(p:Int),0⟩ | none=>⟨0,0,0⟩,0):=by
 have hP:nP c<=8:=g.few.parts
 have h:=zfk (l:=List.range (nP c)) (f:=fun p=>zjf c (a:Int) (.l4 (p:Int))) (q:=fun p=>(List.range (zaI c p)).any (zhy c (a / 16) p)) (g:=fun p=>some ((⟨1,(p:Int),0⟩:zaF),(0:Int))) (e:=some ((⟨0,0,0⟩:zaF),0)) (fun p hp=>by
  rw[List.length_range]at hp
  rw[List.getElem_range]
  have hp':p<c.qq.length:=hp
  have hn:=(g.nregs p hp').2
  have hin:=zao (n:=zaI c p) (f:=fun k=>zjf c (a:Int) (.l8 (p:Int) (p:Int) (zaI c p) (k:Int))) (q:=zhy c (a / 16) p) (r:=some ((⟨1,(p:Int),0⟩:zaF),(0:Int))) (e:=zjf c (a:Int) (.l4 ((p+1:Nat):Int))) (fun k hkk=>by
   have hkk':k<(zb c.qq p).qe.length:=hkk
   obtain ⟨r1,r2,r3,r4⟩:=zBM g hp hkk
   have d1:decide ((zi (zb c.qq p).qe k).frame>=0)=true:=decide_eq_true r1
   have d2:decide ((zi (zb c.qq p).qe k).frame<=1024)=true:=decide_eq_true (by show(Rg c p k).frame<=1024;omega)
   have d4:i64.wrap ((zi (zb c.qq p).qe k).frame+(zi (zb c.qq p).qe k).qc)=(Rg c p k).frame+(Rg c p k).qc:=r4
   rw[zfo]
   simp only[zkI,tnC,zY hkk,zo hp',zo hkk',cnT,d1,d2,d4,zch a (by omega),zj k (show k<4611686018427387904 by omega),zfb,id,Tree.run,qY]
   rfl) (by
   rw[zfo]
   simp only[zkI,z8 (qD),cnF,zj p (show p<4611686018427387904 by omega),Tree.run,qY])
  refine Eq.trans ?_ hin
  rw[zfo]
  simp only[zkI,tnC,zY hp',zo hp',cnT,Tree.run,qY]
  rfl) (by
  rw[List.length_range]
  have hf:decide ((nP c:Int)<(c.qq.length:Int))=false:=z8 (qD)
  rw[zfo]
  simp only[zkI,hf,cnF,id,Tree.run,qY])
 refine Eq.trans h ?_
 unfold zBL
 cases List.find? (fun p=>(List.range (zaI c p)).any (zhy c (a / 16) p)) (List.range (nP c)) <;> rfl
include hk
theorem zD0{a:Nat}(ha:(a:Int)<16*c.qr):ztf c (a:Int)=some (own c a,0):=by
 have hf:=g.qr
 have k1':znG c=some true:=zFo g hk
 have p1':zjv c=some ((zaG c).map mkR):=zi2 g hk
 have hlen:=zvU g hk
 unfold ztf zEQ
 dsimp only [Tree.run0,Tree.run]
 rw[k1',qY,Bool.not_true,cnF,zch a (by omega),decide_eq_false (by omega),decide_eq_false (by omega),decide_eq_false (by omega),cnF,cnF,cnF,p1',qY]
 have h:=zfk (l:=zaG c) (f:=fun i=>zjf c (a:Int) (.l0 ((zaG c).map mkR) (i:Int))) (q:=fun x=>inP x a) (g:=fun x=>some (x.2.2,(0:Int))) (e:=zjf c (a:Int) (.l4 0)) (fun i hi=>by
  have hm:(zaG c)[i] ∈ zaG c:=List.getElem_mem hi
  have he:=zvT g hk hm
  have hl:i<((zaG c).map mkR).length:=by rw[List.length_map];exact hi
  have ew:i64.wrap ((mkR (zaG c)[i]).at_+(mkR (zaG c)[i]).size)=(((zaG c)[i].1+(zaG c)[i].2.1:Nat):Int):=zz _ _ (by simp only[mkR];omega) (by omega)
  have d1:decide ((mkR (zaG c)[i]).at_<=(a:Int))=decide ((zaG c)[i].1<=a):=by rw[decide_eq_decide];show(((zaG c)[i].1:Nat):Int)<=a ↔ _;omega
  have d2:decide ((a:Int)<(((zaG c)[i].1+(zaG c)[i].2.1:Nat):Int))=decide (a<(zaG c)[i].1+(zaG c)[i].2.1):=by rw[decide_eq_decide];omega
  rw[zfo]
  simp only[zkI,tnC,p1',zY hl,zo hl,cnT,zrE hi,ew,d1,d2,zj i (show i<4611686018427387904 by omega),zfb,id,Tree.run,qY]
  rfl) (by
  have hf:decide (((zaG c).length:Int)<(((zaG c).map mkR).length:Int))=false:=z8 (by rw[List.length_map];exact qD)
  rw[zfo]
  simp only[zkI,p1',hf,cnF,Tree.run,qY])
 refine Eq.trans h ?_
 rw[zn7 g (by omega)]
 unfold own
 cases (zaG c).find? (fun x=>inP x a) <;> rfl
end
noncomputable def nW(c:za):Nat:=16*c.qr.toNat
theorem zsn{c:za}(g:zaz c)(hk:0<=c.kernel/\c.kernel<1024):nW c<=16384/\(nW c:Int)=16*c.qr:=by
 have:=g.qr
 unfold nW;omega
theorem zA4(a m b o:Int):zgn a m b o=(decide (a<i64.wrap (b+o))&&decide (b<i64.wrap (a+m))):=by
 unfold zgn
 unfold zpa
 dsimp only [Tree.val]
 by_cases h:a<i64.wrap (b+o) <;> simp[h]
theorem zA5{a m b o x:Int}(h1:0<=a/\0<=m/\a+m<=4096)(h2:0<=b/\0<=o/\b+o<=4096)(h3:a<=x/\x<a+m)(h4:b<=x/\x<b+o):zgn a m b o=true:=by
 rw[zA4,zam _ (by omega) (by omega),zam _ (by omega) (by omega),decide_eq_true (by omega),decide_eq_true (by omega)];rfl
structure zei(c:za):Prop where
 kernel:0<=c.kernel/\c.kernel<1024
 room:1<=c.room/\c.kernel+c.room<=c.qr
 apart : ∀ p k,p<nP c->k<zaI c p->zgn (Rg c p k).frame (Rg c p k).qc c.kernel c.room=false
 need:(tF c (nP c):Int)-c.kernel<=c.room
theorem zDL{c:za}(g:zaz c)(h:zmk c=true):zei c:=by
 simp only[zmk,qH,qG]at h
 obtain ⟨h1,h2,h3,h4⟩:=h
 have hk:=zAP g h1
 have hf:=g.qr
 unfold rin at h2
 rw[zam _ (by omega) (by omega)]at h2
 simp only[qH,qG]at h2
 refine⟨hk,⟨h2.1,by omega⟩,fun p k hp hkk=>?_,h4⟩
 have h5:zoI c=false:=by simpa using h3
 exact any_f.1 (any_f.1 h5 p hp) k hkk
def mk(N:Nat)(f:Nat->Int):List Int:=(List.range N).map f
theorem zP(N:Nat)(f:Nat->Int):(mk N f).length=N:=by simp[mk]
theorem zbf{N i:Nat}(h:i<N)(f:Nat->Int):zt (mk N f) i=f i:=by simp[zt,mk,List.getD,h]
theorem zBa{N i:Nat}(h:N<=i)(f:Nat->Int):zt (mk N f) i=0:=by simp[zt,mk,List.getD,Nat.not_lt.2 h]
theorem zbO{N:Nat}{f g:Nat->Int}(h : ∀ i,i<N->f i=g i):mk N f=mk N g:=List.map_congr_left fun i hi=>h i (qF.1 hi)
theorem zvy{l l':List Int}(hl:l.length=l'.length)(h : ∀ i,i<l.length->zt l i=zt l' i):l=l':=by
 refine List.ext_getElem hl fun i h1 h2=>?_
 have:=h i h1
 simpa [zt,List.getD,h1,h2]using this
theorem zFp{l:List Int}{N:Nat}(h:l.length=N):l=mk N (zt l):=zvy (by rw[zP,h]) fun i hi=>by rw[zbf (by omega)]
theorem zdM{N j:Nat}(h:j<N)(f:Nat->Int)(y:Int):List.set (mk N f) j y=mk N (fun i=>if i=j then y else f i):=by
 refine zvy (by simp[zP]) fun i hi=>?_
 rw[List.length_set,zP]at hi
 rw[zbf hi]
 have:=zbf hi f
 simp only[zt,List.getD,List.getElem?_set,zP]at this ⊢
 by_cases hij:j=i
 . subst hij;simp[h]
 . rw[if_neg hij,if_neg (fun e=>hij e.symm)];exact this
theorem zqx(N:Nat)(y:Int):List.replicate N y=mk N (fun _=>y):=by
 refine List.ext_getElem (by simp[mk]) fun i h1 h2=>?_
 simp[mk]
theorem zcA{N k:Nat}(h:k<=N)(f:Nat->Int):(mk N f).take k=mk k f:=by
 refine List.ext_getElem (by simp[mk];omega) fun i h1 h2=>?_
 simp[mk]
theorem zd4(N a:Nat)(f:Nat->Int):(mk N f).drop a=mk (N-a) (fun i=>f (a+i)):=by
 refine List.ext_getElem (by simp[mk]) fun i h1 h2=>?_
 simp[mk]
theorem zqy(N:Nat)(f:Nat->Int):mk N f++[f N]=mk (N+1) f:=by simp[mk,List.range_succ]
theorem zA9(N M:Nat)(f g:Nat->Int):mk N f++mk M g=mk (N+M) (fun i=>if i<N then f i else g (i-N)):=by
 refine List.ext_getElem (by simp[mk]) fun i h1 h2=>?_
 have h1':i<N+M:=by simpa [mk]using h1
 by_cases h:i<N
 . rw[List.getElem_append_left (by simpa [mk]using h)];simp[mk,h]
 . rw[List.getElem_append_right (by simpa [mk]using h)];simp[mk,h]
theorem zts{xs ys:List Int}(h:ys.length=xs.length):zcH xs 0 ys=ys:=by simp[zcH,h]
theorem zjw{N n a:Nat}(h:a+n<=N)(f g:Nat->Int):zcH (mk N f) a (mk n g)=mk N (fun i=>if a<=i/\i<a+n then g (i-a)else f i):=by
 unfold zcH
 rw[zP,zcA (by omega),zd4,zA9,zA9]
 have:a+(n+(N-(a+n)))=N:=by omega
 rw[this]
 refine zbO fun i hi=>?_
 by_cases h1:i<a
 . rw[if_pos h1,if_neg (by omega)]
 . rw[if_neg h1]
   by_cases h2:i-a<n
   . rw[if_pos h2,if_pos (by omega)]
   . rw[if_neg h2,if_neg (by omega)]
     exact congrArg f (by omega)
def U32(f:Nat->Int):Prop:=∀ i,0<=f i/\f i<4294967296
theorem U32.w64{f:Nat->Int}(h:U32 f)(i:Nat):i64.wrap (f i)=f i:=by
 obtain ⟨h1,h2⟩:=h i
 exact zam _ (by omega) (by omega)
theorem U32.sh{f:Nat->Int}(h:U32 f)(a:Nat):U32 fun i=>f (a+i):=fun i=>h (a+i)
theorem zbR{n:Int}(h0:0<=n)(h1:n<4294967296):u32.wrap n=n:=by
 simp[IntKind.wrap,IntKind.bits,IntKind.signed];omega
theorem mkT{x:Int}(h0:0<=x)(h1:x<=100000){b:Nat}(hb:b<=104):(decide (x=x)&&decide (0<=x)&&leB (x.toNat*b) 140737488355328)=true:=by
 have:x.toNat*b<=100000*104:=Nat.mul_le_mul (by omega) hb
 rw[decide_eq_true h0,zaZ (by omega),decide_eq_true (rfl:x=x)];rfl
theorem mkT2{x:Int}(h0:0<=x)(h1:x<=100000){b:Nat}(hb:b<=104):(decide True&&decide (0<=x)&&leB (x.toNat*b) 140737488355328)=true:=by
 have:=mkT h0 h1 hb
 rwa [decide_eq_true (rfl:x=x)]at this
theorem zDs{K:Nat}(hK:K<=100000)(f:Nat->Int):zuN (mk K f)=some (!((List.range K).any fun i=>!(f i==0))):=by
 have h:=zao (n:=K) (f:=fun i=>zqW (mk K f) (.l0 (i:Int))) (q:=fun i=>!(f i==0)) (r:=some false) (e:=some true) (fun i hi=>by
  rw[zpo]
  simp only[zqe,zP,zY hi,cnT,zo hi,tnC,zbf hi,zj i (by omega),id,Tree.run,qY]) (by rw[zpo];simp only[zqe,zP,z8 (qD),cnF,id,Tree.run,qY])
 refine h.trans ?_
 cases (List.range K).any _ <;> rfl
def zet(f:Nat->Int)(h W:Nat):Bool:=decide (1<=f (h-1))&&decide (f (h-1)<=(W:Int))&&!((List.range (W-(f (h-1)).toNat)).any fun i=>!(f (h+(f (h-1)).toNat+i)==0))
def zbP(f:Nat->Int)(h W:Nat):Bool:=!((List.range (h+W)).any fun i=>!(f i==0)) || ((f 0==1)&&(!(h==3) || decide (f 1<=1))&&zet f h W)
section
variable {N:Nat} {f:Nat->Int} {a n:Nat}
theorem zjy(hN:N<=100000)(h:a+n<=N):zfu (some ⟨mk N f⟩) (a:Int) (n:Int)=some 0:=by
 unfold zfu
 dsimp only [Tree.run0,Tree.run]
 have h0:(some (⟨mk N f⟩:ze)).getD default=⟨mk N f⟩:=rfl
 have h1:(some (⟨mk N f⟩:ze)).isNone=false:=rfl
 have h2:(some (⟨mk N f⟩:ze)).isSome=true:=rfl
 have ew:i64.wrap ((N:Int)-(a:Int))=(N:Int)-(a:Int):=zam _ (by omega) (by omega)
 rw[h1,h2,h0,cnF,decide_eq_false (show ¬ ((a:Int)<0)by omega),cnF,decide_eq_false (show ¬ ((n:Int)<0)by omega),cnF,cnT,zP,decide_eq_false (show ¬ ((a:Int)>(N:Int))by omega),cnF,cnT,ew,decide_eq_false (show ¬ ((n:Int)>(N:Int)-(a:Int))by omega)]
 rfl
theorem zro(hN:N<=100000)(h:a+n<=N):zc2 (some ⟨mk N f⟩) (a:Int) (n:Int)=some (mk n fun i=>f (a+i),0):=by
 have k1':zfu (some ⟨mk N f⟩) (a:Int) (n:Int)=some 0:=zjy (f:=f) hN h
 have h0:(some (⟨mk N f⟩:ze)).getD default=⟨mk N f⟩:=rfl
 unfold zc2
 dsimp only [Tree.run0,Tree.run]
 rw[k1',qY,h0]
 show cond (decide ((n:Int)=n)&&decide (0<=(n:Int))&&leB ((n:Int).toNat*4) 140737488355328) _ _=_
 rw[mkT (by omega) (by omega) (by decide),cnT]
 show cond (inS (a:Int) ((mk N f).length:Int) (mk N f).length) _ _=_
 rw[zP,inS_iff.2 ⟨by omega,by omega,by omega⟩,cnT,tnC,tnC,tnC,zcA (qD),zd4,List.length_replicate,zcA (by omega),zts (by rw[zP,List.length_replicate])]
end
section
variable {N:Nat} {f:Nat->Int} (hf:U32 f) {a W:Nat}
include hf
theorem zvG(m:ze)(h1:1<=W)(hW:W<=16):zgE (some m) (W:Int)=0:=by
 unfold zgE
 dsimp only [Tree.val]
 rw[decide_eq_false (show ¬ ((W:Int)<1)by omega),decide_eq_false (show ¬ ((W:Int)>16)by omega)];rfl
end
def zn6(f:Nat->Int)(W:Nat):Bool:=decide (f 0<=(W:Int))&&!((List.range (W-(f 0).toNat)).any fun i=>!(f (1+(f 0).toNat+i)==0))
theorem zDT{f:Nat->Int}{W:Nat}(h : ¬ f 0<=(W:Int)):zn6 f W=false:=by unfold zn6;rw[decide_eq_false h];rfl
theorem zxS{f:Nat->Int}(hf:U32 f){W:Nat}(hW:W<=16):zns (mk (1+W) f)=some (cond (zn6 f W) (mk (f 0).toNat fun i=>f (1+i)) [],zn6 f W):=by
 have e1:i64.wrap (((1+W:Nat):Int)-1)=((W:Nat):Int):=zz _ _ (by omega) (by omega)
 have e2:u32.wrap ((W:Nat):Int)=((W:Nat):Int):=zbR (by omega) (by omega)
 obtain ⟨n0,n1⟩:=hf 0
 unfold zns zAk
 dsimp only [Tree.run0,Tree.run]
 rw[zP,zbD (x:=0) (Int.le_refl _) (by omega),cnT,zbf (show 0<1+W by omega),e1,e2]
 by_cases c:f 0>(W:Int)
 . rw[decide_eq_true c,zDT (by omega)];rfl
 . have e3:u32.wrap (1+f 0)=1+f 0:=zbR (by omega) (by omega)
   obtain ⟨n,hn⟩ : ∃ n:Nat,f 0=(n:Int):=⟨(f 0).toNat,by omega⟩
   have e4:(1+f 0).toNat=1+n:=by omega
   have e5:((mk (1+W) f).take (1+W)).drop (1+n)=mk (W-n) fun i=>f (1+n+i):=by
    rw[zcA (qD),zd4,show 1+W-(1+n)=W-n by omega]
   have hm:zn6 f W=!((List.range (W-n)).any fun i=>!(f (1+n+i)==0)):=by
    unfold zn6;rw[hn,tnC,decide_eq_true (show(n:Int)<=(W:Int)by omega)];rfl
   rw[decide_eq_false c,cnF,e3,inS_iff.2 ⟨by omega,by omega,by omega⟩,cnT]
   have hl:=zao (n:=W-n) (f:=fun i=>zqV (mk (1+W) f) (.l0 (i:Int))) (q:=fun i=>!(f (1+n+i)==0)) (r:=some ([],false)) (e:=some (mk n (fun i=>f (1+i)),true)) (fun i hi=>by
    rw[zpm]
    simp only[zqc,zP,zbf (show 0<1+W by omega),e3,e4,tnC,e5,zY hi,cnT,zo hi,zbf hi,zj i (by omega),id,Tree.run,qY]) (by
    rw[zpm]
    have e6:((mk (1+W) f).take (1+n)).drop 1=mk n fun i=>f (1+i):=by rw[zcA (by omega),zd4,Nat.add_sub_cancel_left]
    simp only[zqc,zP,zbf (show 0<1+W by omega),e3,e4,tnC,e5,z8 (qD),cnF,e6,List.length_nil,List.nil_append,id,Tree.run,qY]
    rw[inS_iff.2 ⟨by omega,by omega,by omega⟩,cnT,zaZ (by omega),cnT])
   rw[hm,hn,tnC]
   refine hl.trans ?_
   cases (List.range (W-n)).any fun i=>!(f (1+n+i)==0) <;> rfl
def okQ(f:Nat->Int)(W D first:Nat)(many:Int)(i:Nat):Bool:=zn6 (fun j=>f ((first+i) % D*(1+W)+j)) W&&(decide ((i:Int)<many)==decide (f ((first+i) % D*(1+W))>0))
def zf5(f:Nat->Int)(W D first:Nat)(many:Int):Bool:=!((List.range D).any fun i=>!(okQ f W D first many i))
theorem zzV(a b:Nat):dv .rem .i64 (a:Int) (b:Int)=((a % b:Nat):Int):=by
 show Int.tmod (a:Int) (b:Int)=_
 rw[Int.tmod_eq_emod_of_nonneg (Int.natCast_nonneg a)]
 exact(Int.natCast_emod a b).symm
section
variable {f:Nat->Int} (hf:U32 f) {W D:Nat} (hW:W<=16) (hD1:1<=D) (hD:D<=8)
include hf hW hD1 hD
theorem zBz{first i:Nat}:(first+i) % D*(1+W)+(1+W)<=D*(1+W)/\D*(1+W)<=136:=by
 have h1:=Nat.mod_lt (first+i) (show D>0 by omega)
 have h2:((first+i) % D+1)*(1+W)<=D*(1+W):=Nat.mul_le_mul_right _ h1
 rw[Nat.add_mul,Nat.one_mul]at h2
 exact⟨h2,Nat.le_trans (Nat.mul_le_mul hD (show 1+W<=17 by omega)) (by decide)⟩
end
def zhw(f:Nat->Int)(W D:Nat):Bool:=decide (f 0<=(D:Int))&&zf5 (fun i=>f (1+i)) W D 0 (f 0)
def zeI(f:Nat->Int)(W D:Nat):Bool:=decide (f 0<(D:Int))&&(decide (f 1<=(D:Int))&&((decide (f 1>0) || (f 0==0))&&zf5 (fun i=>f (3+i)) W D (f 0).toNat (f 1)))
section
variable {f:Nat->Int} (hf:U32 f) {W D:Nat} (hW1:1<=W) (hW:W<=16) (hD1:1<=D) (hD:D<=8) {N a:Nat} (hN:N<=100000)
include hf hW1 hW hD1 hD hN
theorem dw:i64.wrap ((D:Int)*i64.wrap (1+(W:Int)))=((D*(1+W):Nat):Int)/\D*(1+W)<=136:=by
 have h2:=(zBz hf hW hD1 hD (first:=0) (i:=0)).2
 refine⟨?_,h2⟩
 rw[zz (1+(W:Int)) (1+W) (by omega) (by omega)]
 exact zz _ _ (Int.natCast_mul _ _).symm (by omega)
theorem zzo(h:Nat)(hh:h<=3):zeO ⟨(W:Int),(D:Int)⟩ (h:Int)=((h+D*(1+W):Nat):Int):=by
 obtain ⟨d1,d2⟩:=dw hf hW1 hW hD1 hD hN
 show i64.wrap ((h:Int)+i64.wrap ((D:Int)*i64.wrap (1+(W:Int))))=_
 rw[d1];exact zz _ _ (by omega) (by omega)
theorem zlx(m:ze):zgD (some m) ⟨(W:Int),(D:Int)⟩=0:=by
 unfold zgD
 dsimp only [Tree.val]
 rw[show(some m).isNone=false from rfl,cnF]
 rw[decide_eq_false (show ¬ ((W:Int)<1)by omega),decide_eq_false (show ¬ ((W:Int)>16)by omega),decide_eq_false (show ¬ ((D:Int)<1)by omega),decide_eq_false (show ¬ ((D:Int)>8)by omega)];rfl
theorem zlP(h:Nat)(hh:h<=3)(ha:a+(h+D*(1+W))<=N):zeD ⟨(W:Int),(D:Int)⟩ (some ⟨mk N f⟩) (a:Int) (h:Int)=some true:=by
 have k1':zc2 (some ⟨mk N f⟩) (a:Int) ((h+D*(1+W):Nat):Int)=some _:=zro (f:=f) hN ha
 unfold zeD
 dsimp only [Tree.run0,Tree.run]
 rw[zzo hf hW1 hW hD1 hD hN h hh,k1',qY];rfl
end
def over(f:Nat->Int)(a n:Nat)(g:Nat->Int)(i:Nat):Int:=if a<=i/\i<a+n then g (i-a)else f i
theorem zhf{f g:Nat->Int}{a n i:Nat}(h:i<n):over f a n g (a+i)=g i:=by
 unfold over;rw[if_pos ⟨by omega,by omega⟩,Nat.add_sub_cancel_left]
theorem zaB{f g:Nat->Int}{a n i:Nat}(h : ¬ (a<=i/\i<a+n)):over f a n g i=f i:=by unfold over;rw[if_neg h]
theorem zeu{f g:Nat->Int}{a n:Nat}(hf:U32 f)(hg : ∀ i,i<n->0<=g i/\g i<4294967296):U32 (over f a n g):=fun i=>by
 unfold over
 split
 . rename_i h;exact hg _ (by omega)
 . exact hf i
section
variable {N:Nat} {f:Nat->Int} {a n:Nat}
theorem zAT(hN:N<=100000)(h:a+n<=N)(g:Nat->Int):ze3 (a:Int) (mk n g) (mk N f)=some (0,⟨mk N (over f a n g)⟩):=by
 have k1':zfu (some ⟨mk N f⟩) (a:Int) (n:Int)=some 0:=zjy (f:=f) hN h
 have e:zcH (mk N f) a (List.take (N-a) (mk n g))=mk N (over f a n g):=by
  rw[List.take_of_length_le (by rw[zP];omega),zjw h]
  rfl
 unfold ze3 zAj
 dsimp only [Tree.run0,Tree.run]
 rw[zP,zP,k1',qY,inS_iff.2 ⟨by omega,by omega,by omega⟩,cnT,tnC,tnC,e,zyp]
 simp only[ztX,zP,k1',id,Tree.run,qY]
 rfl
theorem zlS(hN:N<=100000)(h:a+1<=N)(x:Int):zdP (a:Int) x (mk N f)=some (0,⟨mk N (over f a 1 fun _=>x)⟩):=by
 have k1':zfu (some ⟨mk N f⟩) (a:Int) 1=some 0:=zjy (f:=f) hN h
 have e:List.set (mk N f) a x=mk N (over f a 1 fun _=>x):=by
  rw[zdM (by omega)]
  refine zbO fun i hi=>?_
  unfold over
  by_cases hia:i=a
  . rw[if_pos hia,if_pos (by omega)]
  . rw[if_neg hia,if_neg (by omega)]
 unfold zdP zzZ
 dsimp only [Tree.run0,Tree.run]
 rw[k1',qY,zP,zo (show a<N by omega),cnT,tnC,e,zyk]
 simp only[ztS,k1',id,Tree.run,qY]
 rfl
theorem zHz(hN:N<=100000)(h:a+n<=N)(x:Int):zkB (a:Int) (n:Int) x (mk N f)=some (0,⟨mk N (over f a n fun _=>x)⟩):=by
 have k1':zfu (some ⟨mk N f⟩) (a:Int) (n:Int)=some 0:=zjy (f:=f) hN h
 have hl:=zK (n:=n) (f:=fun i (xs:List Int)=>zih (a:Int) (n:Int) x (mk N f) (.l0 (i:Int) xs)) (S:=fun i=>mk N (over f a i fun _=>x)) (fun i hi=>by
  rw[zpn]
  have e1:i64.wrap ((a:Int)+(i:Int))=((a+i:Nat):Int):=zz _ _ (by omega) (by omega)
  have e2:List.set (mk N (over f a i fun _=>x)) (a+i) x=mk N (over f a (i+1) fun _=>x):=by
   rw[zdM (by omega)]
   refine zbO fun j hj=>?_
   unfold over
   by_cases hja:j=a+i
   . rw[if_pos hja,if_pos (by omega)]
   . rw[if_neg hja]
     by_cases hr:a<=j/\j<a+i
     . rw[if_pos hr,if_pos (by omega)]
     . rw[if_neg hr,if_neg (by omega)]
  simp only[zqd,zY hi,cnT,e1,zP,zo (show a+i<N by omega),tnC,e2,zj i (by omega),Tree.run,qY])
 have e0:mk N (over f a 0 fun _=>x)=mk N f:=zbO fun i hi=>zaB (by omega)
 unfold zkB zAp
 dsimp only [Tree.run0,Tree.run]
 rw[k1',qY]
 show zih (a:Int) (n:Int) x (mk N f) (.l0 0 (mk N f))=_
 have hl':zih (a:Int) (n:Int) x (mk N f) (.l0 0 (mk N f))=zih (a:Int) (n:Int) x (mk N f) (.l0 (n:Int) (mk N (over f a n fun _=>x))):=by
  have:=hl
  rw[e0]at this
  exact this
 rw[hl',zpn]
 simp only[zqd,z8 (Nat.le_refl n),cnF,id,Tree.run,qY]
end
def zBd(f:Nat->Int)(h W:Nat):List Int:=cond (zet f h W) (mk (f (h-1)).toNat fun i=>f (h+i)) []
theorem zxT{f:Nat->Int}(hf:U32 f){h W:Nat}(h1:1<=h)(h3:h<=3)(hW:W<=16):znz (mk (h+W) f) (h:Int)=some (zBd f h W,zet f h W):=by
 have e1:i64.wrap ((h:Int)-1)=((h-1:Nat):Int):=zz _ _ (by omega) (by omega)
 have e2:zt (mk (h+W) f) (h-1)=f (h-1):=zbf (by omega) f
 have e3:(List.take ((h+W:Nat):Int).toNat (mk (h+W) f)).drop (h:Int).toNat=mk W fun i=>f (h+i):=by
  simp only[tnC]
  rw[zcA (qD),zd4,Nat.add_sub_cancel_left]
 unfold znz zAr
 dsimp only [Tree.run0,Tree.run]
 simp only[zP,e1,tnC,e2,hf.w64,zo (show h-1<h+W by omega),cnT]
 have e3':(List.take (h+W) (mk (h+W) f)).drop h=mk W fun i=>f (h+i):=by simpa only [tnC]using e3
 rw[inS_iff.2 ⟨by omega,by omega,by omega⟩,cnT,e3',zP]
 obtain ⟨n0,n1⟩:=hf (h-1)
 by_cases c1:f (h-1)<1
 . rw[decide_eq_true c1,cnT]
   have:zet f h W=false:=by unfold zet;rw[decide_eq_false (show ¬ 1<=f (h-1)by omega)];rfl
   unfold zBd
   rw[this];rfl
 . rw [decide_eq_false c1,cnF]
   by_cases c2:f (h-1)>(W:Int)
   . rw[decide_eq_true c2,cnT]
     have:zet f h W=false:=by unfold zet;rw[decide_eq_false (show ¬ f (h-1)<=(W:Int)by omega),Bool.and_false];rfl
     unfold zBd
     rw[this];rfl
   . rw[decide_eq_false c2,cnF,inS_iff.2 ⟨by omega,by omega,by omega⟩,cnT]
     have en:(((f (h-1)).toNat:Nat):Int)=f (h-1):=by omega
     have e4:((((mk (h+W) f).take ((h+W:Nat):Int).toNat).drop (h:Int).toNat).take ((((mk (h+W) f).take ((h+W:Nat):Int).toNat).drop (h:Int).toNat).length:Int).toNat).drop (f (h-1)).toNat=mk (W-(f (h-1)).toNat) fun i=>f (h+(f (h-1)).toNat+i):=by
      rw[e3,zP,tnC,zcA (qD),zd4]
      exact zbO fun i hi=>congrArg f (by omega)
     have hl:=zao (n:=W-(f (h-1)).toNat) (f:=fun i=>zqX (mk (h+W) f) (h:Int) (.l0 (i:Int))) (q:=fun i=>!(f (h+(f (h-1)).toNat+i)==0)) (r:=some ([],false)) (e:=some (mk (f (h-1)).toNat (fun i=>f (h+i)),true)) (fun i hi=>by
      rw[zpp]
      simp only[zqf,e1,tnC,e2,hf.w64,Tree.run,qY]
      have e4':=e4
      simp only[tnC,zP]at e4' ⊢
      rw[e4',zP,zY hi,cnT,zo hi,cnT,zbf hi,zj i (by omega)]) (by
      rw[zpp]
      simp only[zqf,e1,tnC,e2,hf.w64,Tree.run,qY]
      have e4':=e4
      simp only[tnC,zP]at e4' ⊢
      rw[e4',zP,z8 (qD),cnF]
      rw[mkT2 (show 0<=f (h-1)by omega) (by omega) (by decide),cnT,e3',List.length_replicate,zcA (by omega),zts (by rw[zP,List.length_replicate])])
     refine hl.trans ?_
     have:zet f h W=!((List.range (W-(f (h-1)).toNat)).any fun i=>!(f (h+(f (h-1)).toNat+i)==0)):=by
      unfold zet;rw[decide_eq_true (show 1<=f (h-1)by omega),decide_eq_true (show f (h-1)<=(W:Int)by omega)];rfl
     unfold zBd
     rw[this]
     cases (List.range (W-(f (h-1)).toNat)).any fun i=>!(f (h+(f (h-1)).toNat+i)==0) <;> rfl
def zfj(f:Nat->Int)(h W:Nat):Bool:=(f 0==1)&&(!(h==3) || decide (f 1<=1))&&zet f h W
def zbn(f:Nat->Int)(h W:Nat):List Int:=cond ((List.range (h+W)).any fun i=>!(f i==0)) (cond (zfj f h W) (mk (f (h-1)).toNat fun i=>f (h+i)) []) []
theorem zHN{f:Nat->Int}(hf:U32 f){h W:Nat}(h2:h=2 ∨ h=3)(hW:W<=16):znx (mk (h+W) f) (h:Int)=some (zbn f h W,zbP f h W):=by
 unfold znx zbP zbn zfj
 simp only[Tree.run,zDs (K:=h+W) (by omega) f,zxT hf (h:=h) (W:=W) (by omega) (by omega) hW,qY]
 rw[zP,zbD (x:=0) (Int.le_refl _) (by omega),zbf (show 0<h+W by omega),zbD (x:=1) (by decide) (by omega),zbf (show 1<h+W by omega)]
 unfold zBd
 cases (List.range (h+W)).any fun i=>!(f i==0)with
 | false=>rfl
 | true=>
  cases f 0==1 with
  | false=>rfl
  | true=>
   rcases h2 with rfl | rfl
   . cases zet f 2 W <;> rfl
   . by_cases c:f 1<=1
     . rw[decide_eq_true c,decide_eq_false (show ¬ f 1>1 by omega)];cases zet f 3 W <;> rfl
     . rw[decide_eq_false c,decide_eq_true (show f 1>1 by omega)];rfl
section
variable {N:Nat} {f:Nat->Int} (hf:U32 f) {a W:Nat}
include hf
theorem zjx(hN:N<=100000){h:Nat}(h2:h=2 ∨ h=3)(hW:W<=16)(ha:a+(h+W)<=N):zc3 (some ⟨mk N f⟩) (a:Int) (W:Int) (h:Int)=some (cond (zbP (fun i=>f (a+i)) h W) (zbn (fun i=>f (a+i)) h W) [],cond (zbP (fun i=>f (a+i)) h W) 0 191):=by
 have e:i64.wrap ((h:Int)+(W:Int))=((h+W:Nat):Int):=zz _ _ (by omega) (by omega)
 have k1':zc2 (some ⟨mk N f⟩) (a:Int) ((h+W:Nat):Int)=some _:=zro (f:=f) hN ha
 have m1':znx (mk (h+W) fun i=>f (a+i)) (h:Int)=some _:=zHN (hf.sh a) h2 hW
 unfold zc3
 simp only[Tree.run,e,k1',m1',qY]
 cases zbP (fun i=>f (a+i)) h W <;> rfl
theorem zfh(F:Nat)(hF:F<=1024):zdJ (some ⟨mk (16*F) f⟩)=some (F:Int):=by
 unfold zdJ
 dsimp only [Tree.run0,Tree.run]
 have e:bop .quo .i64 ((16*F:Nat):Int) 16=(F:Int):=by
  show i64.wrap (Int.tdiv ((16*F:Nat):Int) 16)=_
  rw[Int.tdiv_eq_ediv_of_nonneg (by omega)]
  exact(congrArg i64.wrap (by omega)).trans (zam (F:Int) (by omega) (by omega))
 have h0:(some (⟨mk (16*F) f⟩:ze)).getD default=⟨mk (16*F) f⟩:=rfl
 have h1:(some (⟨mk (16*F) f⟩:ze)).isNone=false:=rfl
 have h2:(some (⟨mk (16*F) f⟩:ze)).isSome=true:=rfl
 rw[h0,h1,h2,zP,e]
 rfl
theorem znJ{F n:Nat}(hF:F<=1024)(ha:a+n<=16*F):zfR (some ⟨mk (16*F) f⟩) (a:Int) (n:Int)=some 0:=by
 have k1':zdJ (some ⟨mk (16*F) f⟩)=some (F:Int):=zfh hf F hF
 have e1:i64.wrap ((F:Int)*16)=(F:Int)*16:=zam _ (by omega) (by omega)
 have e2:i64.wrap ((F:Int)*16-(n:Int))=(F:Int)*16-(n:Int):=zam _ (by omega) (by omega)
 unfold zfR
 dsimp only [Tree.run0,Tree.run]
 rw[k1',qY,e1,e2,decide_eq_false (show ¬ (a:Int)<0 by omega),cnF,decide_eq_false (show ¬ (a:Int)>(F:Int)*16-(n:Int)by omega)]
 rfl
end
end Go.Proofs.YtgajeebphoiphaaGreatDoor
end
