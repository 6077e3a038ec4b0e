import Derived.Test.YtgajeebphoiphaaGreatDoorC12
import Derived.Test.YtgajeebphoiphaaGreatDoorD
set_option linter.unusedVariables false
set_option linter.unusedSimpArgs false
set_option linter.unusedSectionVars false
noncomputable section
open Go.IntKind (i64 u32)
namespace Go.Proofs.YtgajeebphoiphaaGreatDoor
open Go.RowKit
theorem zi(i:Nat)(h:i<4611686018427387904):i64.wrap ((i:Int)+1)=((i+1:Nat):Int):=by rw[zal _ (by omega) (by omega)];omega
theorem zY{i n:Nat}(h:i<n):decide ((i:Int)<(n:Int))=true:=decide_eq_true (by omega)
theorem z9{i n:Nat}(h:n<=i):decide ((i:Int)<(n:Int))=false:=decide_eq_false (by omega)
theorem zK{σ R:Type}{n:Nat}{f:Nat->σ->Option R}{S:Nat->σ}(hs : ∀ i,i<n->f i (S i)=f (i+1) (S (i+1))):f 0 (S 0)=f n (S n):=by
 have : ∀ k,k<=n->f 0 (S 0)=f k (S k):=by
  intro k
  induction k with
  | zero=>intro _;rfl
  | succ k ih=>intro h;rw[ih (by omega),hs k (by omega)]
 exact this n (Nat.le_refl _)
theorem zas{R:Type}{n:Nat}{f:Nat->Option R}{q:Nat->Bool}{r e:Option R}(hs : ∀ i,i<n->f i=cond (q i) r (f (i+1)))(he:f n=e):f 0=cond ((List.range n).any q) r e:=by
 have : ∀ k i,i+k=n->f i=cond ((List.range' i k).any q) r e:=by
  intro k
  induction k with
  | zero=>intro i h;simp at h;subst h;simpa using he
  | succ k ih=>
   intro i h
   rw[hs i (by omega),ih (i+1) (by omega),List.range'_succ,List.any_cons]
   cases q i <;> rfl
 have h:=this n 0 (by omega)
 rwa [← List.range_eq_range']at h
theorem any_t{n:Nat}{q:Nat->Bool}:(List.range n).any q=true ↔ ∃ i,i<n/\q i=true:=by simp
theorem any_f{n:Nat}{q:Nat->Bool}:(List.range n).any q=false ↔ ∀ i,i<n->q i=false:=by simp
theorem zhG{n:Nat}{q q':Nat->Bool}(h : ∀ i,i<n->q i=q' i):(List.range n).any q=(List.range n).any q':=by
 rw[Bool.eq_iff_iff,any_t,any_t]
 exact⟨fun⟨i,hi,hq⟩=>⟨i,hi,by rw[← h i hi];exact hq⟩,fun⟨i,hi,hq⟩=>⟨i,hi,by rw[h i hi];exact hq⟩⟩
def B47:Nat:=140737488351232
def I64(n:Int):Prop := -9223372036854775808<=n/\n<9223372036854775808
structure zco(c:za):Prop where
 frames:I64 c.frames
 kernel:I64 c.kernel
 room:I64 c.room
 cores:c.cores.length*24<=B47
 core : ∀ i,i<c.cores.length->(zD c.cores i).length*24<=B47
 parts:c.partitions.length*104<=B47
 regions : ∀ i,i<c.partitions.length->(zb c.partitions i).regions.length*32<=B47
 ports : ∀ i,i<c.partitions.length->(zb c.partitions i).ports.length*16<=B47
 name : ∀ i,i<c.partitions.length->(zb c.partitions i).name.size<=maxLen
 chans:c.channels.length*24<=B47
 region : ∀ i k,i<c.partitions.length->k<(zb c.partitions i).regions.length->I64 (zh (zb c.partitions i).regions k).frame/\I64 (zh (zb c.partitions i).regions k).pages
theorem zeF{n:Int}(h:Fit (.v (.int .i64 n))):I64 n:=by
 cases h with
 | int _ _ h0 h1=>
  simp[IntKind.min,IntKind.max,IntKind.signed,IntKind.bits]at h0 h1
  exact⟨by omega,by omega⟩
theorem zca{t:Ty}{xs:List t.T}(h:Fit (.sl t xs)):xs.length*t.by<=B47/\∀ i j,i<xs.length->j<t.sz->Fit ((t.enc (nth xs i)).getD j .undef):=by
 cases h with
 | sl _ _ hl h=>exact⟨hl,h⟩
theorem zC3{s:ByteArray}(h:Fit (.v (.string s))):s.size<=maxLen:=by
 cases h with
 | str _ h=>exact h
theorem fitC{c:za}(h : ∀ j,j<Ty.sz .sConfig->Fit ((Ty.enc .sConfig c).getD j .undef)):zco c:=by
 obtain ⟨k1,k2⟩:=zca (t:=.sl .sWindow) (xs:=c.cores) (h 4 (by decide))
 obtain ⟨k3,k4⟩:=zca (t:=.sPartition) (xs:=c.partitions) (h 5 (by decide))
 obtain ⟨k5,_⟩:=zca (t:=.sChannel) (xs:=c.channels) (h 6 (by decide))
 have part : ∀ i,i<c.partitions.length->_:=fun i hi=>zca (t:=.sRegion) (xs:=(zb c.partitions i).regions) (k4 i 6 hi (by decide))
 refine⟨zeF (h 0 (by decide)),zeF (h 2 (by decide)),zeF (h 3 (by decide)),k1,fun i hi=>(zca (t:=.sWindow) (xs:=zD c.cores i) (k2 i 0 hi (by decide))).1,k3,fun i hi=>(part i hi).1,fun i hi=>(zca (t:=.sPort) (xs:=(zb c.partitions i).ports) (k4 i 7 hi (by decide))).1,fun i hi=>zC3 (k4 i 0 hi (by decide)),k5,fun i k hi hk=>?_⟩
 exact⟨zeF ((part i hi).2 k 2 hk (by decide)),zeF ((part i hi).2 k 1 hk (by decide))⟩
theorem zjV(n l m:Int):zaP n l m=(decide (l<=n)&&decide (n<=m)):=by
 unfold zaP
 by_cases h:l<=n <;> simp[h,Tree.val]
theorem zfD(n l m:Int):zaZ n l m=(decide (l<=n)&&decide (n<=m)):=by
 unfold zaZ
 by_cases h:l<=n <;> simp[h,Tree.val]
theorem za0{a b:Nat}(h:a<=b):leB a b=true:=by simpa only [leB,Nat.ble_eq]using h
theorem zAv(n b:Nat)(h:n*b<=B47):(decide ((n:Int)=n)&&decide (0<=n)&&leB ((n:Int).toNat*b) 140737488355328)=true:=by
 unfold B47 at h
 rw[tnC,za0 (by omega)]
 simp
def zy7(b:Int):Bool:=(decide (b<97) || decide (b>122))&&(decide (b<48) || decide (b>57))&&!(b==45)
def zrY(s:ByteArray):Bool:=(List.range s.size).any fun i=>zy7 (zcw s i)
theorem zrh{R:Type}(b:Int)(x y:R):cond (decide (b<97)) (cond (decide (b<48)) (cond (!(b==45)) x y) (cond (decide (b>57)) (cond (!(b==45)) x y) y)) (cond (decide (b>122)) (cond (decide (b<48)) (cond (!(b==45)) x y) (cond (decide (b>57)) (cond (!(b==45)) x y) y)) y)=cond (zy7 b) x y:=by
 unfold zy7
 cases decide (b<97) <;> cases decide (b>122) <;> cases decide (b<48) <;> cases decide (b>57) <;> cases (b==45) <;> rfl
theorem zHn{s:ByteArray}(hs:s.size<4611686018427387904):zmT s (.l0 0)=some (!(zrY s)):=by
 have h:=zas (n:=s.size) (f:=fun i=>zmT s (.l0 (i:Int))) (q:=fun i=>zy7 (zcw s i)) (r:=some false) (e:=some true) (fun i hi=>by
  rw[zo4]
  simp only[zpP,zY hi,cnT,zn hi,tnC,zi i (by omega),id,Tree.run,Option.bind_some]
  exact zrh _ _ _) (by rw[zo4];simp only[zpP,z9 (Nat.le_refl _),cnF,id,Tree.run,Option.bind_some])
 refine h.trans ?_
 unfold zrY
 cases (List.range s.size).any _ <;> rfl
theorem zHm{s:ByteArray}(hs:s.size<4611686018427387904):zmU s (.l0 0)=some (!(zrY s)):=by
 have h:=zas (n:=s.size) (f:=fun i=>zmU s (.l0 (i:Int))) (q:=fun i=>zy7 (zcw s i)) (r:=some false) (e:=some true) (fun i hi=>by
  rw[zo5]
  simp only[zpQ,zY hi,cnT,zn hi,tnC,zi i (by omega),id,Tree.run,Option.bind_some]
  exact zrh _ _ _) (by rw[zo5];simp only[zpQ,z9 (Nat.le_refl _),cnF,id,Tree.run,Option.bind_some])
 refine h.trans ?_
 unfold zrY
 cases (List.range s.size).any _ <;> rfl
noncomputable def ztR(s:ByteArray):Bool:=cond (decide (s.size=0)) false (cond (decide (s.size>16)) false (cond (decide (zcw s 0<97)) false (cond (decide (zcw s 0>122)) false (!(zrY s)))))
theorem zC9(s:ByteArray):zqQ s=some (ztR s):=by
 unfold zqQ zzN ztR
 dsimp only [Tree.run0,Tree.run]
 have e1:(s.toList==(ByteArray.mk #[]).toList)=decide (s.size=0):=by
  rw[Bool.eq_iff_iff,beq_iff_eq,decide_eq_true_eq,ByteArray.toList_eq,ByteArray.toList_eq]
  constructor
  . intro h
    have h2:s.data.toList.length=0:=congrArg List.length h
    rw[Array.length_toList]at h2
    exact h2
  . intro h
    have h2:s.data.toList.length=0:=by rw[Array.length_toList];exact h
    exact List.eq_nil_of_length_eq_zero h2
 rw[e1]
 cases h0:decide (s.size=0)with
 | true=>rfl
 | false=>
  simp only[cnF]
  have h0' : ¬ s.size=0:=by simpa using h0
  have e2:decide ((s.size:Int)>16)=decide (s.size>16):=by rw[Bool.eq_iff_iff,decide_eq_true_eq,decide_eq_true_eq];omega
  rw[e2]
  cases h1:decide (s.size>16)with
  | true=>rfl
  | false=>
   have h1' : ¬ s.size>16:=by simpa using h1
   have e3:zN 0 s.size=true:=zn (i:=0) (by omega)
   simp only[cnF,e3,cnT,id]
   rw[zHn (by omega)]
   cases decide (zcw s 0<97) <;> cases decide (zcw s 0>122) <;> rfl
theorem zC8(s:ByteArray):zqR s=some (ztR s):=by
 unfold zqR zzP ztR
 dsimp only [Tree.run0,Tree.run]
 have e1:decide ((s.size:Int)<1)=decide (s.size=0):=by rw[Bool.eq_iff_iff,decide_eq_true_eq,decide_eq_true_eq];omega
 rw[e1]
 cases h0:decide (s.size=0)with
 | true=>rfl
 | false=>
  simp only[cnF]
  have h0' : ¬ s.size=0:=by simpa using h0
  have e2:decide ((s.size:Int)>16)=decide (s.size>16):=by rw[Bool.eq_iff_iff,decide_eq_true_eq,decide_eq_true_eq];omega
  rw[e2]
  cases h1:decide (s.size>16)with
  | true=>rfl
  | false=>
   have h1' : ¬ s.size>16:=by simpa using h1
   have e3:zN 0 s.size=true:=zn (i:=0) (by omega)
   simp only[cnF,e3,cnT,id]
   rw[zHm (by omega)]
   cases decide (zcw s 0<97) <;> cases decide (zcw s 0>122) <;> rfl
def zcR(x:zx):Bool:=((x.e:Int)==fine.e)&&((((x.where_.first:Int)==fine.where_.first)&&(((x.where_.second:Int)==fine.where_.second)&&true))&&true)
theorem zop(x:zx):zcR x=true ↔ x=fine:=by
 obtain ⟨e,f,s⟩:=x
 simp[zcR,fine]
theorem zek:zcR fine=true:=(zop _).2 rfl
theorem zlw{x:zx}(h:x.e ≠ 0):zcR x=false:=by
 cases hq:zcR x with
 | false=>rfl
 | true=>rw[(zop x).1 hq]at h;exact absurd rfl h
def AnsF(o:Option zx)(b:Bool):Prop:=∃ r,o=some r/\(b=true->r=fine)/\(b=false->r.e ≠ 0)
def zCn(o:Option Int)(b:Bool):Prop:=∃ e,o=some e/\(e==0)=b
theorem AnsF.fine{b:Bool}(h:b=true):AnsF (some fine) b:=⟨_,rfl,fun _=>rfl,fun h'=>by rw[h]at h';cases h'⟩
theorem AnsF.err{r:zx}{b:Bool}(h:b=false)(hr:r.e ≠ 0):AnsF (some r) b:=⟨_,rfl,fun h'=>by(rw[h]at h';cases h'),fun _=>hr⟩
theorem AnsF.err'{e:Int}{w:zaY}{b:Bool}(h:b=false)(hr:e ≠ 0):AnsF (some ⟨e,w⟩) b:=.err h hr
theorem znF(e:Int)(w:zaY):zag true e w=fine:=rfl
theorem zjt(e:Int)(w:zaY):zag false e w=⟨e,⟨w.first,w.second⟩⟩:=rfl
theorem zbE{b:Bool}{e:Int}{w:zaY}(he:e ≠ 0):zcR (zag b e w)=b:=by
 cases b
 . rw[zjt];exact zlw he
 . rw[znF];exact zek
theorem zCL{xs:List zx}{i:Nat}(h:i<xs.length):zdW xs i=xs[i]:=by simp[zdW,List.getD,h]
theorem zAb{l:List zx}(hl:l.length<4611686018427387904) : ∃ r,zbv l=some r/\((∀ x ∈ l,zcR x=true)->r=fine)/\∀ x ∈ l,zcR x=false->zcR r=false/\r ∈ l:=by
 have key : ∀ k i,i+k=l.length->∃ r,zqw l (.l0 (i:Int))=some r/\((∀ x ∈ l.drop i,zcR x=true)->r=fine)/\∀ x ∈ l.drop i,zcR x=false->zcR r=false/\r ∈ l:=by
  intro k
  induction k with
  | zero=>
   intro i h
   refine⟨fine,?_,fun _=>rfl,fun x hx=>?_⟩
   . rw[zo1]
     simp only[zpM,z9 (show l.length<=i by omega),cnF,id,Tree.run,Option.bind_some]
   . rw[List.drop_eq_nil_of_le (by omega)]at hx;cases hx
  | succ k ih=>
   intro i h
   have hi:i<l.length:=by omega
   have hd:l.drop i=l[i] :: l.drop (i+1):=List.drop_eq_getElem_cons hi
   rw[zo1]
   simp only[zpM,zY hi,cnT,zn hi,tnC,zi i (by omega),id,Tree.run,Option.bind_some]
   obtain ⟨r,h1,h2,h3⟩:=ih (i+1) (by omega)
   show ∃ r,cond (!(zcR (zdW l i))) _ _=some r/\_
   rw[zCL hi]
   cases hq:zcR l[i]with
   | true=>
    refine⟨r,h1,fun h=>h2 fun x hx=>h x (by rw[hd];exact List.mem_cons_of_mem _ hx),fun x hx hf=>?_⟩
    rw[hd]at hx
    rcases List.mem_cons.1 hx with rfl | hx
    . rw[hq]at hf;cases hf
    . exact h3 x hx hf
   | false=>
    refine⟨l[i],rfl,fun h=>?_,fun x hx hf=>⟨hq,List.getElem_mem hi⟩⟩
    have:=h l[i] (by rw[hd];exact List.mem_cons_self)
    rw[hq]at this;cases this
 obtain ⟨r,h1,h2,h3⟩:=key l.length 0 (by omega)
 exact⟨r,h1,by simpa using h2,by simpa using h3⟩
theorem zjT(bs:List (Bool × Int × zaY))(hl:bs.length<4611686018427387904)(he : ∀ x ∈ bs,x.2.1 ≠ 0):AnsF (zbv (bs.map fun x=>zag x.1 x.2.1 x.2.2)) (bs.all (·.1)):=by
 obtain ⟨r,h1,h2,h3⟩:=zAb (l:=bs.map fun x=>zag x.1 x.2.1 x.2.2) (by simpa using hl)
 refine⟨r,h1,fun h=>h2 fun x hx=>?_,fun h=>?_⟩
 . obtain ⟨y,hy,rfl⟩:=List.mem_map.1 hx
   rw[zbE (he y hy)]
   exact List.all_eq_true.1 h y hy
 . obtain ⟨y,hy,hb⟩ : ∃ y ∈ bs,y.1=false:=by
    apply Classical.byContradiction
    intro hn
    have:bs.all (·.1)=true:=List.all_eq_true.2 fun y hy=>by
     cases hq:y.1 with
     | true=>rfl
     | false=>exact absurd ⟨y,hy,hq⟩ hn
    rw[this]at h;cases h
   obtain ⟨h4,h5⟩:=h3 _ (List.mem_map.2 ⟨y,hy,rfl⟩) (by rw[zbE (he y hy)];exact hb)
   obtain ⟨z,hz,rfl⟩:=List.mem_map.1 h5
   rw[zbE (he z hz)]at h4
   rw[h4,zjt]
   exact he z hz
theorem zGX(b1 b2:Bool)(e1 e2:Int)(w1 w2:zaY)(h1:e1 ≠ 0)(h2:e2 ≠ 0):AnsF (zbv [zag b1 e1 w1,zag b2 e2 w2]) (b1&&b2):=by
 have:=zjT [(b1,e1,w1),(b2,e2,w2)] (by simp) (by simp[h1,h2])
 simpa using this
theorem zAa(b1 b2 b3:Bool)(e1 e2 e3:Int)(w1 w2 w3:zaY)(h1:e1 ≠ 0)(h2:e2 ≠ 0)(h3:e3 ≠ 0):AnsF (zbv [zag b1 e1 w1,zag b2 e2 w2,zag b3 e3 w3]) (b1&&(b2&&b3)):=by
 have:=zjT [(b1,e1,w1),(b2,e2,w2),(b3,e3,w3)] (by simp) (by simp[h1,h2,h3])
 simpa using this
theorem zGY(b1 b2 b3 b4:Bool)(e1 e2 e3 e4:Int)(w1 w2 w3 w4:zaY)(h1:e1 ≠ 0)(h2:e2 ≠ 0)(h3:e3 ≠ 0)(h4:e4 ≠ 0):AnsF (zbv [zag b1 e1 w1,zag b2 e2 w2,zag b3 e3 w3,zag b4 e4 w4]) (b1&&(b2&&(b3&&b4))):=by
 have:=zjT [(b1,e1,w1),(b2,e2,w2),(b3,e3,w3),(b4,e4,w4)] (by simp) (by simp[h1,h2,h3,h4])
 simpa using this
noncomputable def P(c:za)(p:Nat):zf:=zb c.partitions p
noncomputable def Rg(c:za)(p k:Nat):Region:=zh (P c p).regions k
noncomputable def zgv(c:za)(p q:Nat):Bool:=((P c q).name.toList==(P c p).name.toList)
noncomputable def zdg(c:za)(p:Nat):Bool:=!((List.range p).any (zgv c p))&&ztR (P c p).name
theorem zl6{i n:Nat}(h:i<=n):inS 0 (i:Int) n=true:=inS_iff.2 ⟨by omega,by omega,by omega⟩
theorem zwa{c:za}{p q:Nat}(hq:q<p)(hp:p<=c.partitions.length):zb ((c.partitions.take p).drop 0) q=P c q:=by
 simp[zb,P,List.getD,List.getElem?_take,hq]
theorem zDq{c:za}(hc:zco c){p:Nat}(hp:p<c.partitions.length):zqK c p=some (zdg c p):=by
 have hlen:=hc.parts
 unfold B47 at hlen
 have h:=zas (n:=p) (f:=fun i=>zqv c p (.l0 (i:Int))) (q:=zgv c p) (r:=some false) (e:=some (ztR (P c p).name)) (fun i hi=>by
  rw[zoY]
  simp only[zpJ,zY hi,cnT,zn hp,zn (show i<c.partitions.length by omega),tnC,zi i (by omega),id,Tree.run,Option.bind_some]
  rfl) (by
  rw[zoY]
  simp only[zpJ,z9 (Nat.le_refl _),cnF,zn hp,cnT,tnC,id,zC9,Tree.run,Option.bind_some];rfl)
 refine h.trans ?_
 unfold zdg
 cases (List.range p).any (zgv c p) <;> simp
theorem zDp{c:za}(hc:zco c){p:Nat}(hp:p<c.partitions.length):znb c p=some (zdg c p):=by
 have hlen:=hc.parts
 unfold B47 at hlen
 have htl:((c.partitions.take p).drop 0).length=p:=by simp;omega
 have h:=zas (n:=p) (f:=fun i=>zqx c p (.l0 (i:Int))) (q:=zgv c p) (r:=some false) (e:=some (ztR (P c p).name)) (fun i hi=>by
  rw[zo2]
  simp only[zpN,tnC,htl,zY hi,cnT,zn hp,zn hi,zi i (by omega),id,zwa hi (Nat.le_of_lt hp),Tree.run,Option.bind_some]
  rfl) (by
  rw[zo2]
  simp only[zpN,tnC,htl,z9 (Nat.le_refl _),cnF,zn hp,cnT,id,zC8,Tree.run,Option.bind_some];rfl)
 unfold znb zzK
 dsimp only [Tree.run0,Tree.run]
 rw[zl6 (Nat.le_of_lt hp),cnT]
 refine h.trans ?_
 unfold zdg
 cases (List.range p).any (zgv c p) <;> simp
noncomputable def zgh(a m b o:Int):Bool:=zoV a m b o
noncomputable def zgs(c:za)(g:Region):Bool:=(decide (0<=g.page)&&decide (g.page<=255))&&(decide (1<=g.pages)&&decide (g.pages<=i64.wrap (256-g.page)))&&decide (0<=g.frame)&&decide (g.pages<=i64.wrap (c.frames-g.frame))&&(decide (1<=g.rights)&&decide (g.rights<=7))
noncomputable def zr3(c:za)(p k i:Nat):Bool:=zgh (Rg c p k).page (Rg c p k).pages (Rg c p i).page (Rg c p i).pages
noncomputable def zcS(c:za)(p k q i:Nat):Bool:=(decide (q<p) || decide (i<k))&&zgh (Rg c p k).frame (Rg c p k).pages (Rg c q i).frame (Rg c q i).pages
noncomputable def zaH(c:za)(p:Nat):Nat:=(P c p).regions.length
noncomputable def zhp(c:za)(p k:Nat):Bool:=zgs c (Rg c p k)&&!((List.range k).any (zr3 c p k))&&!((List.range (p+1)).any fun q=>(List.range (zaH c q)).any (zcS c p k q))
theorem zDF(c:za)(g:Region):zsf c g=zgs c g:=by
 unfold zsf zgs
 dsimp only [Tree.val]
 rw[zjV,zjV,zjV]
 cases decide (0<=g.page) <;> cases decide (g.page<=255) <;> cases decide (1<=g.pages) <;> cases decide (g.pages<=i64.wrap (256-g.page)) <;> cases decide (0<=g.frame) <;> cases decide (g.pages<=i64.wrap (c.frames-g.frame)) <;> simp
theorem zBp{c:za}(hc:zco c){p k:Nat}(hp:p<c.partitions.length)(hk:k<zaH c p):zCn (zqL c p k) (zhp c p k):=by
 have hlen:=hc.parts
 unfold B47 at hlen
 have hrl : ∀ q,q<c.partitions.length->zaH c q*32<=B47:=fun q hq=>hc.regions q hq
 have hB:B47=140737488351232:=rfl
 have hk':k<(zb c.partitions p).regions.length:=hk
 -- the frames of one partition
 have h8 : ∀ q,q<=p->zcy c p k (.l8 (q:Int) 0)=cond ((List.range (zaH c q)).any (zcS c p k q)) (some 411) (zcy c p k (.l4 ((q+1:Nat):Int))):=fun q hq=>by
  have hqc:q<c.partitions.length:=by omega
  have hql:=hrl q hqc
  by_cases hqp:q=p
  . subst hqp
    have h:=zas (n:=k) (f:=fun i=>zcy c q k (.l8 (q:Int) (i:Int))) (q:=fun i=>zgh (Rg c q k).frame (Rg c q k).pages (Rg c q i).frame (Rg c q i).pages) (r:=some 411) (e:=zcy c q k (.l4 ((q+1:Nat):Int))) (fun i hi=>by
     rw[zcH]
     have hi':i<(zb c.partitions q).regions.length:=by omega
     have e1:decide ((i:Int)>=(k:Int))=false:=decide_eq_false (by omega)
     simp only[zeK,tnC,zn hqc,cnT,zY hi',zn hi',beq_self_eq_true,e1,cnF,zi i (by omega),id,Tree.run,Option.bind_some]
     rfl) (by
     rw[zcH]
     have e1:decide ((k:Int)>=(k:Int))=true:=decide_eq_true (by omega)
     simp only[zeK,tnC,zn hqc,cnT,zY hk',beq_self_eq_true,e1,zi q (by omega),id,Tree.run,Option.bind_some])
    refine h.trans ?_
    congr 1
    rw[Bool.eq_iff_iff,any_t,any_t]
    constructor
    . rintro ⟨i,hi,hq⟩
      exact⟨i,Nat.lt_trans hi hk,by simp only[zcS,Bool.and_eq_true,Bool.or_eq_true,decide_eq_true_eq];exact⟨.inr hi,hq⟩⟩
    . rintro ⟨i,hi,hq⟩
      simp only[zcS,Bool.and_eq_true,Bool.or_eq_true,decide_eq_true_eq]at hq
      exact⟨i,by omega,hq.2⟩
  . have h:=zas (n:=zaH c q) (f:=fun i=>zcy c p k (.l8 (q:Int) (i:Int))) (q:=zcS c p k q) (r:=some 411) (e:=zcy c p k (.l4 ((q+1:Nat):Int))) (fun i hi=>by
     rw[zcH]
     have hi':i<(zb c.partitions q).regions.length:=hi
     have e1:((q:Int)==(p:Int))=false:=by simp;omega
     simp only[zeK,tnC,zn hqc,cnT,zY hi',zn hi',e1,cnF,zi i (by omega),id,Tree.run,Option.bind_some]
     unfold zcS
     rw[show decide (q<p)=true from decide_eq_true (by omega),Bool.true_or,Bool.true_and]
     rfl) (by
     rw[zcH]
     have hi':decide ((zaH c q:Int)<((zb c.partitions q).regions.length:Int))=false:=z9 (Nat.le_refl _)
     simp only[zeK,tnC,zn hqc,cnT,hi',cnF,zi q (by omega),id,Tree.run,Option.bind_some])
    exact h
 have h4:=zas (n:=p+1) (f:=fun q=>zcy c p k (.l4 (q:Int))) (q:=fun q=>(List.range (zaH c q)).any (zcS c p k q)) (r:=some 411) (e:=some 0) (fun q hq=>by
  rw[zcH]
  have e1:decide ((q:Int)<=(p:Int))=true:=decide_eq_true (by omega)
  simp only[zeK,e1,cnT,id,Tree.run,Option.bind_some]
  exact h8 q (by omega)) (by
  rw[zcH]
  have e1:decide (((p+1:Nat):Int)<=(p:Int))=false:=decide_eq_false (by omega)
  simp only[zeK,e1,cnF,id,Tree.run,Option.bind_some])
 have hkl:=hrl p hp
 have h0:=zas (n:=k) (f:=fun i=>zcy c p k (.l0 (i:Int))) (q:=zr3 c p k) (r:=some 410) (e:=zcy c p k (.l4 0)) (fun i hi=>by
  rw[zcH]
  have hi':i<(zb c.partitions p).regions.length:=by omega
  simp only[zeK,tnC,zY hi,zn hp,cnT,zn hi',zi i (by omega),id,Tree.run,Option.bind_some]
  rfl) (by
  rw[zcH]
  simp only[zeK,z9 (Nat.le_refl _),cnF,id,Tree.run,Option.bind_some])
 unfold zqL zzG
 dsimp only [Tree.run0,Tree.run]
 simp only[tnC,zn hp,zn hk',cnT,id]
 show zCn (cond (!(zsf c (Rg c p k))) (some 409) (zcy c p k (.l0 0))) _
 rw[zDF]
 unfold zhp
 cases zgs c (Rg c p k)with
 | false=>exact⟨409,rfl,rfl⟩
 | true=>
  simp only[Bool.not_true,cnF,Bool.true_and]
  refine(show zCn _ _ from ?_)
  rw[show zcy c p k (.l0 0)=_ from h0,show zcy c p k (.l4 0)=_ from h4]
  cases (List.range k).any (zr3 c p k)with
  | true=>exact⟨410,rfl,rfl⟩
  | false=>
   simp only[cnF,Bool.not_false,Bool.true_and]
   cases (List.range (p+1)).any fun q=>(List.range (zaH c q)).any (zcS c p k q)with
   | true=>exact⟨411,rfl,rfl⟩
   | false=>exact⟨0,rfl,rfl⟩
theorem zDk(n:Int):decide (n<0)=!(decide (0<=n)):=by
 by_cases h:0<=n
 . rw[decide_eq_false (by omega),decide_eq_true h];rfl
 . rw[decide_eq_true (by omega),decide_eq_false h];rfl
theorem ztQ(a b:Int):decide (a>b)=!(decide (a<=b)):=by
 by_cases h:a<=b
 . rw[decide_eq_false (by omega),decide_eq_true h];rfl
 . rw[decide_eq_true (by omega),decide_eq_false h];rfl
theorem zJb{c:za}{p k i:Nat}(hi:i<k):zh ((((P c p).regions).take k).drop 0) i=Rg c p i:=by
 simp[zh,Rg,List.getD,List.getElem?_take,hi]
theorem zDE{c:za}{p k:Nat}(hk:k<=zaH c p):((((P c p).regions).take k).drop 0).length=k:=by
 unfold zaH at hk
 simp;omega
theorem zBo{c:za}(hc:zco c){p k:Nat}(hp:p<c.partitions.length)(hk:k<zaH c p):AnsF (zqO c p k) (zhp c p k):=by
 have hlen:=hc.parts
 unfold B47 at hlen
 have hrl : ∀ q,q<c.partitions.length->zaH c q*32<=B47:=fun q hq=>hc.regions q hq
 have hB:B47=140737488351232:=rfl
 have hk':k<(zb c.partitions p).regions.length:=hk
 have hw:i64.wrap ((p:Int)+1)=((p+1:Nat):Int):=zi p (by omega)
 have hpl:((c.partitions.take (p+1)).drop 0).length=p+1:=by simp;omega
 let e3:zx:=⟨411,⟨p,k⟩⟩
 have h8 : ∀ q,q<=p->zdh c p k (.l8 (q:Int) (q:Int) (P c q).regions ((P c q).regions.length) 0)=cond ((List.range (zaH c q)).any (zcS c p k q)) (some e3) (zdh c p k (.l4 ((q+1:Nat):Int))):=fun q hq=>by
  have hql:=hrl q (by omega)
  exact zas (n:=zaH c q) (f:=fun i=>zdh c p k (.l8 (q:Int) (q:Int) (P c q).regions ((P c q).regions.length) (i:Int))) (q:=zcS c p k q) (r:=some e3) (e:=zdh c p k (.l4 ((q+1:Nat):Int))) (fun i hi=>by
   rw[zee]
   have hi':i<(P c q).regions.length:=hi
   have e1:decide ((q:Int)<(p:Int))=decide (q<p):=by rw[Bool.eq_iff_iff,decide_eq_true_eq,decide_eq_true_eq];omega
   have e2:decide ((i:Int)<(k:Int))=decide (i<k):=by rw[Bool.eq_iff_iff,decide_eq_true_eq,decide_eq_true_eq];omega
   simp only[zf3,tnC,cnT,zY hi',zn hi',e1,e2,zi i (by omega),id,Tree.run,Option.bind_some]
   unfold zcS
   show cond (decide (q<p)) (cond (zgh (Rg c p k).frame (Rg c p k).pages (Rg c q i).frame (Rg c q i).pages) (some e3) _) (cond (decide (i<k)) (cond (zgh (Rg c p k).frame (Rg c p k).pages (Rg c q i).frame (Rg c q i).pages) (some e3) _) _)=_
   cases decide (q<p) <;> cases decide (i<k) <;> cases zgh (Rg c p k).frame (Rg c p k).pages (Rg c q i).frame (Rg c q i).pages <;> rfl) (by
   rw[zee]
   have hi':decide ((zaH c q:Int)<((P c q).regions.length:Int))=false:=z9 (Nat.le_refl _)
   simp only[zf3,hi',cnF,zi q (by omega),id,Tree.run,Option.bind_some])
 have h4:=zas (n:=p+1) (f:=fun q=>zdh c p k (.l4 (q:Int))) (q:=fun q=>(List.range (zaH c q)).any (zcS c p k q)) (r:=some e3) (e:=some fine) (fun q hq=>by
  rw[zee]
  simp only[zf3,hw,tnC,hpl,zY hq,zn hq,cnT,zwa hq (show p+1<=c.partitions.length by omega),id,Tree.run,Option.bind_some]
  exact h8 q (by omega)) (by
  rw[zee]
  simp only[zf3,hw,tnC,hpl,z9 (Nat.le_refl _),cnF,id,Tree.run,Option.bind_some])
 have hkl:=hrl p hp
 let e2:zx:=⟨410,⟨p,k⟩⟩
 have hrlen:(((zb c.partitions p).regions.take k).drop 0).length=k:=zDE (c:=c) (p:=p) (Nat.le_of_lt hk)
 have h0:=zas (n:=k) (f:=fun i=>zdh c p k (.l0 (i:Int))) (q:=zr3 c p k) (r:=some e2) (e:=zdh c p k (.l4 0)) (fun i hi=>by
  rw[zee]
  have ha:zh (((zb c.partitions p).regions.take k).drop 0) i=Rg c p i:=zJb hi
  simp only[zf3,tnC,hrlen,zY hi,zn hi,cnT,ha,zi i (by omega),id,Tree.run,Option.bind_some]
  rfl) (by
  rw[zee]
  simp only[zf3,tnC,hrlen,z9 (Nat.le_refl _),cnF,hw,zl6 (show p+1<=c.partitions.length by omega),cnT,id,Tree.run,Option.bind_some])
 unfold zqO zzL
 dsimp only [Tree.run0,Tree.run]
 simp only[tnC,zn hp,zn hk',cnT,zfD,zDk,ztQ,zl6 (Nat.le_of_lt hk'),id]
 unfold zhp zgs
 show AnsF (cond (!(decide (0<=(Rg c p k).page)&&decide ((Rg c p k).page<=255))) _ (cond (!(decide (1<=(Rg c p k).pages)&&decide ((Rg c p k).pages<=i64.wrap (256-(Rg c p k).page)))) _ (cond (!(decide (0<=(Rg c p k).frame))) _ (cond (!(decide ((Rg c p k).pages<=i64.wrap (c.frames-(Rg c p k).frame)))) _ (cond (!(decide (1<=(Rg c p k).rights)&&decide ((Rg c p k).rights<=7))) _ (zdh c p k (.l0 0))))))) _
 cases decide (0<=(Rg c p k).page)&&decide ((Rg c p k).page<=255)with
 | false=>exact .err' rfl (by decide)
 | true=>
 cases decide (1<=(Rg c p k).pages)&&decide ((Rg c p k).pages<=i64.wrap (256-(Rg c p k).page))with
 | false=>exact .err' rfl (by decide)
 | true=>
 cases decide (0<=(Rg c p k).frame)with
 | false=>exact .err' rfl (by decide)
 | true=>
 cases decide ((Rg c p k).pages<=i64.wrap (c.frames-(Rg c p k).frame))with
 | false=>exact .err' rfl (by decide)
 | true=>
 cases decide (1<=(Rg c p k).rights)&&decide ((Rg c p k).rights<=7)with
 | false=>exact .err' rfl (by decide)
 | true=>
  simp only[Bool.not_true,cnF,Bool.true_and,Bool.and_true]
  rw[show zdh c p k (.l0 0)=_ from h0,show zdh c p k (.l4 0)=_ from h4]
  cases (List.range k).any (zr3 c p k)with
  | true=>exact .err' rfl (by decide)
  | false=>
   simp only[cnF,Bool.not_false,Bool.true_and]
   cases (List.range (p+1)).any fun q=>(List.range (zaH c q)).any (zcS c p k q)with
   | true=>exact .err' rfl (by decide)
   | false=>exact .fine rfl
noncomputable def zhP(x:zf)(i:Nat):Bool:=(decide ((zh x.regions i).page<=bop .quo .i64 x.entry 16)&&decide (bop .quo .i64 x.entry 16<=i64.wrap (i64.wrap ((zh x.regions i).page+(zh x.regions i).pages)-1)))&&!((bop .and .i64 (zh x.regions i).rights 4)==0)
noncomputable def zeN(x:zf):Bool:=(decide (0<=x.entry)&&decide (x.entry<=4095))&&(List.range x.regions.length).any (zhP x)
theorem zfT{R:Type}(a b:Bool)(x y:R):cond a (cond b x y) y=cond (a&&b) x y:=by cases a <;> cases b <;> rfl
theorem zCZ{x:zf}(hx:x.regions.length*32<=B47):zm9 x=some (zeN x):=by
 unfold B47 at hx
 have h:=zas (n:=x.regions.length) (f:=fun i=>zmR x (.l0 (i:Int))) (q:=zhP x) (r:=some true) (e:=some false) (fun i hi=>by
  rw[zoZ]
  simp only[zpK,tnC,zY hi,zn hi,cnT,zjV,zi i (by omega),id,zfT,Tree.run,Option.bind_some]
  rfl) (by
  rw[zoZ]
  simp only[zpK,z9 (Nat.le_refl _),cnF,id,Tree.run,Option.bind_some])
 unfold zm9 zzH zeN
 dsimp only [Tree.run0,Tree.run]
 rw[zjV]
 cases decide (0<=x.entry)&&decide (x.entry<=4095)with
 | false=>rfl
 | true=>
  refine Eq.trans (show _=zmR x (.l0 0)from rfl) (Eq.trans h ?_)
  cases (List.range x.regions.length).any (zhP x) <;> rfl
theorem zJf{x:zf}(hx:x.regions.length*32<=B47):znc x=some ((List.range x.regions.length).any (zhP x)):=by
 unfold B47 at hx
 have h:=zas (n:=x.regions.length) (f:=fun i=>zmS x (.l0 (i:Int))) (q:=zhP x) (r:=some true) (e:=some false) (fun i hi=>by
  rw[zo3]
  simp only[zpO,tnC,zY hi,zn hi,cnT,zfD,zi i (by omega),id,zfT,Tree.run,Option.bind_some]
  rfl) (by
  rw[zo3]
  simp only[zpO,z9 (Nat.le_refl _),cnF,id,Tree.run,Option.bind_some])
 refine Eq.trans (show _=zmS x (.l0 0)from rfl) (Eq.trans h ?_)
 cases (List.range x.regions.length).any (zhP x) <;> rfl
noncomputable def zae(c:za)(p:Nat):Nat:=(P c p).ports.length
noncomputable def Pt(c:za)(p k:Nat):zb9:=zbc (P c p).ports k
noncomputable def zfW(c:za)(p k:Nat):Bool:=!(decide (0<=(Pt c p k).channel)&&decide ((Pt c p k).channel<=i64.wrap ((c.channels.length:Int)-1)))
noncomputable def zl4(c:za)(p:Nat):Bool:=zdg c p&&(((decide (0<=(P c p).action)&&decide ((P c p).action<=2))&&(decide (0<=(P c p).restarts)&&decide ((P c p).restarts<=15)))&&(((decide (0<=(P c p).inputs)&&decide ((P c p).inputs<=16))&&(decide (0<=(P c p).outputs)&&decide ((P c p).outputs<=16)))&&(decide (1<=zaH c p)&&decide (zaH c p<=8))))
noncomputable def zeq(c:za)(p:Nat):Bool:=zl4 c p&&!((List.range (zaH c p)).any fun k=>!(zhp c p k))&&zeN (P c p)&&decide (zae c p<=8)&&!((List.range (zae c p)).any (zfW c p))
def zc2(o:Option (Int × zaY))(b:Bool):Prop:=∃ r,o=some r/\(r.1==0)=b
theorem zpG{r:zx}{b:Bool}(h1:b=true->r=fine)(h2:b=false->r.e ≠ 0):zcR r=b:=by
 cases b with
 | true=>rw[h1 rfl];exact zek
 | false=>exact zlw (h2 rfl)
theorem zr5{c:za}(hc:zco c){p:Nat}(hp:p<c.partitions.length):zc2 (zvV c p) (zeq c p):=by
 have hrl:zaH c p*32<=B47:=hc.regions p hp
 have hql:zae c p*16<=B47:=hc.ports p hp
 have hB:B47=140737488351232:=rfl
 have n1':zqK c p=some (zdg c p):=zDq hc hp
 -- ports
 have l6 : ∀ m i,i+m=zae c p->zc2 (zpc c p (.l6 (i:Int))) (!((List.range' i m).any (zfW c p))):=by
  intro m
  induction m with
  | zero=>
   intro i h
   rw[zjf]
   have hi':decide ((i:Int)<((zb c.partitions p).ports.length:Int))=false:=z9 (by unfold zae P at h;omega)
   simp only[zn9,tnC,hi',cnF,id,Tree.run,Option.bind_some]
   exact⟨_,rfl,rfl⟩
  | succ m ih=>
   intro i h
   rw[zjf]
   have hi:i<(zb c.partitions p).ports.length:=by unfold zae P at h;omega
   simp only[zn9,tnC,zY hi,zn hi,cnT,zjV,zi i (by omega),id,Tree.run,Option.bind_some]
   rw[List.range'_succ,List.any_cons]
   show zc2 (cond (zfW c p i) _ _) _
   cases zfW c p i with
   | true=>exact⟨_,rfl,rfl⟩
   | false=>simpa using ih (i+1) (by omega)
 have l6':=l6 (zae c p) 0 (by omega)
 rw[← List.range_eq_range']at l6'
 have x1':zm9 (zb c.partitions p)=some (zeN (P c p)):=zCZ (x:=P c p) hrl
 have l2 : ∀ m i,i+m=zaH c p->zc2 (zpc c p (.l2 (i:Int))) (!((List.range' i m).any fun k=>!(zhp c p k))&&zeN (P c p)&&decide (zae c p<=8)&&!((List.range (zae c p)).any (zfW c p))):=by
  intro m
  induction m with
  | zero=>
   intro i h
   rw[zjf]
   have hi':decide ((i:Int)<((zb c.partitions p).regions.length:Int))=false:=z9 (by unfold zaH P at h;omega)
   simp only[zn9,tnC,hi',cnF,x1',cnT,ztQ,id,Tree.run,Option.bind_some]
   cases zeN (P c p)with
   | false=>exact⟨_,rfl,by simp⟩
   | true=>
    have e1:decide (((zb c.partitions p).ports.length:Int)<=8)=decide (zae c p<=8):=by rw[Bool.eq_iff_iff,decide_eq_true_eq,decide_eq_true_eq];unfold zae P;omega
    rw[e1]
    cases decide (zae c p<=8)with
    | false=>exact⟨_,rfl,by simp⟩
    | true=>simpa using l6'
  | succ m ih=>
   intro i h
   have hi:i<zaH c p:=by omega
   rw[zjf]
   have hi':i<(zb c.partitions p).regions.length:=hi
   obtain ⟨e,r1',r2'⟩:=zBp hc hp hi
   simp only[zn9,tnC,zY hi',cnT,r1',r2',zi i (by omega),id,Tree.run,Option.bind_some]
   rw[List.range'_succ,List.any_cons]
   cases hq:zhp c p i with
   | false=>
    refine⟨_,rfl,?_⟩
    rw[r2',hq];simp
   | true=>simpa using ih (i+1) (by omega)
 have l2':=l2 (zaH c p) 0 (by omega)
 rw[← List.range_eq_range']at l2'
 unfold zvV zEJ
 dsimp only [Tree.run0,Tree.run]
 simp only[tnC,zn hp,cnT,n1',zjV,id]
 have e8:(decide ((1:Int)<=((zb c.partitions p).regions.length:Int))&&decide (((zb c.partitions p).regions.length:Int)<=8))=(decide (1<=zaH c p)&&decide (zaH c p<=8)):=by
  rw[Bool.eq_iff_iff];simp only[Bool.and_eq_true,decide_eq_true_eq];unfold zaH P;omega
 rw[e8]
 unfold zeq zl4
 show zc2 (cond (!(zdg c p)) _ (cond (!(decide (0<=(P c p).action)&&decide ((P c p).action<=2))) _ (cond (!(decide (0<=(P c p).restarts)&&decide ((P c p).restarts<=15))) _ (cond (!(decide (0<=(P c p).inputs)&&decide ((P c p).inputs<=16))) _ (cond (!(decide (0<=(P c p).outputs)&&decide ((P c p).outputs<=16))) _ (cond (!(decide (1<=zaH c p)&&decide (zaH c p<=8))) _ (zpc c p (.l2 0)))))))) _
 cases zdg c p with
 | false=>exact⟨_,rfl,rfl⟩
 | true=>
 cases decide (0<=(P c p).action)&&decide ((P c p).action<=2)with
 | false=>exact⟨_,rfl,rfl⟩
 | true=>
 cases decide (0<=(P c p).restarts)&&decide ((P c p).restarts<=15)with
 | false=>exact⟨_,rfl,rfl⟩
 | true=>
 cases decide (0<=(P c p).inputs)&&decide ((P c p).inputs<=16)with
 | false=>exact⟨_,rfl,rfl⟩
 | true=>
 cases decide (0<=(P c p).outputs)&&decide ((P c p).outputs<=16)with
 | false=>exact⟨_,rfl,rfl⟩
 | true=>
 cases decide (1<=zaH c p)&&decide (zaH c p<=8)with
 | false=>exact⟨_,rfl,rfl⟩
 | true=>simpa using l2'
theorem zoe{α:Type}(b:Bool)(x:α):cond b x x=x:=by cases b <;> rfl
theorem zda(x:zx):(((x.e:Int)==fine.e)&&((((x.where_.first:Int)==fine.where_.first)&&(((x.where_.second:Int)==fine.where_.second)&&true))&&true))=zcR x:=rfl
theorem zjP(x:zx):(⟨x.e,⟨x.where_.first,x.where_.second⟩⟩:zx)=x:=rfl
noncomputable def X0(c:za)(p:Nat)(x:zx)(i:Nat):Option zx:=zmP c p (.l0 (i:Int) x.e x.where_.first x.where_.second)
noncomputable def X4(c:za)(p:Nat)(x:zx)(i:Nat):Option zx:=zmP c p (.l4 (i:Int) x.e x.where_.first x.where_.second)
theorem zyU{c:za}{p i:Nat}{x:zx}(hx:x.e ≠ 0):X4 c p x i=some x:=by
 unfold X4
 rw[zec]
 simp only[zf1,tnC,zda,zlw hx,cnF,zoe,id,zjP,Tree.run,Option.bind_some]
theorem zyT{c:za}{p i:Nat}{x:zx}(hx:x.e ≠ 0):X0 c p x i=some x:=by
 unfold X0
 rw[zec]
 simp only[zf1,tnC,zda,zlw hx,cnF,Bool.not_false,cnT,zoe,id,zjP,Tree.run,Option.bind_some]
theorem zCI{c:za}(hc:zco c){p:Nat}(hp:p<c.partitions.length) : ∀ m i,i+m=zae c p->AnsF (X4 c p fine i) (!((List.range' i m).any (zfW c p))):=by
 have hql:zae c p*16<=B47:=hc.ports p hp
 have hB:B47=140737488351232:=rfl
 intro m
 induction m with
 | zero=>
  intro i h
  unfold X4
  rw[zec]
  have hi':decide ((i:Int)<((zb c.partitions p).ports.length:Int))=false:=z9 (by unfold zae P at h;omega)
  simp only[zf1,tnC,hi',cnF,id,zjP,Tree.run,Option.bind_some]
  exact .fine rfl
 | succ m ih=>
  intro i h
  have hi:i<(zb c.partitions p).ports.length:=by unfold zae P at h;omega
  have key:X4 c p fine i=X4 c p (zag (!(zfW c p i)) 414 (zdG p i)) (i+1):=by
   unfold X4
   rw[zec]
   simp only[zf1,tnC,zY hi,zda,zek,cnT,zn hi,zfD,zi i (by omega),id,Tree.run,Option.bind_some]
   unfold zfW
   rw[Bool.not_not]
   rfl
  rw[key,List.range'_succ,List.any_cons]
  cases zfW c p i with
  | true=>
   rw[Bool.not_true,zjt,zyU (show(414:Int) ≠ 0 by decide)]
   exact .err' rfl (by decide)
  | false=>simpa [znF]using ih (i+1) (by omega)
noncomputable def zpt(c:za)(p:Nat):Bool:=zeN (P c p)&&decide (zae c p<=8)&&!((List.range (zae c p)).any (zfW c p))
theorem zGr{c:za}(hc:zco c){p:Nat}(hp:p<c.partitions.length):AnsF (X0 c p fine (zaH c p)) (zpt c p):=by
 have hrl:zaH c p*32<=B47:=hc.regions p hp
 have h4:=zCI hc hp (zae c p) 0 (by omega)
 rw[← List.range_eq_range']at h4
 have x1':znc (zb c.partitions p)=some ((List.range (P c p).regions.length).any (zhP (P c p))):=zJf (x:=P c p) hrl
 have e1:decide (((zb c.partitions p).ports.length:Int)<=8)=decide (zae c p<=8):=by rw[Bool.eq_iff_iff,decide_eq_true_eq,decide_eq_true_eq];unfold zae P;omega
 unfold X0
 rw[zec]
 have hi':decide ((zaH c p:Int)<((zb c.partitions p).regions.length:Int))=false:=z9 (Nat.le_refl _)
 simp only[zf1,tnC,hi',cnF,zda,zek,Bool.not_true,x1',cnT,zfD,e1,id,Tree.run,Option.bind_some]
 have go : ∀ b:Bool,AnsF ((zbv [zag b 412 (za2 p),zag (decide (zae c p<=8)) 413 (za2 p)]).bind fun r=>X4 c p r 0) (b&&decide (zae c p<=8)&&!((List.range (zae c p)).any (zfW c p))):=fun b=>by
  obtain ⟨r,k1,k3,k4⟩:=zGX b (decide (zae c p<=8)) 412 413 (za2 p) (za2 p) (by decide) (by decide)
  rw[k1,Option.bind_some]
  cases hb:b&&decide (zae c p<=8)with
  | false=>
   have:=k4 hb
   exact Eq.mpr (congrArg (fun o=>AnsF o _) (zyU this)) (.err rfl this)
  | true=>
   have:r=fine:=k3 hb
   rw[this]
   simpa using h4
 unfold zpt zeN
 show AnsF (cond (decide (0<=(P c p).entry)&&decide ((P c p).entry<=4095)) _ _) _
 cases decide (0<=(P c p).entry)&&decide ((P c p).entry<=4095)with
 | true=>exact go _
 | false=>exact go false
theorem zCH{c:za}(hc:zco c){p:Nat}(hp:p<c.partitions.length) : ∀ m i,i+m=zaH c p->AnsF (X0 c p fine i) (!((List.range' i m).any fun k=>!(zhp c p k))&&zpt c p):=by
 have hrl:zaH c p*32<=B47:=hc.regions p hp
 have hB:B47=140737488351232:=rfl
 intro m
 induction m with
 | zero=>
  intro i h
  obtain rfl:i=zaH c p:=by omega
  simpa using zGr hc hp
 | succ m ih=>
  intro i h
  have hi0:i<zaH c p:=by omega
  have hi:i<(zb c.partitions p).regions.length:=hi0
  obtain ⟨r,k1',k3,k4⟩:=zBo hc hp hi0
  have key:X0 c p fine i=X0 c p r (i+1):=by
   unfold X0
   rw[zec]
   simp only[zf1,tnC,zY hi,zda,zek,cnT,k1',zi i (by omega),id,Tree.run,Option.bind_some]
  rw[key,List.range'_succ,List.any_cons]
  cases hq:zhp c p i with
  | false=>
   have:=k4 hq
   exact Eq.mpr (congrArg (fun o=>AnsF o _) (zyT this)) (.err (by simp) this)
  | true=>
   have:r=fine:=k3 hq
   rw[this]
   simpa using ih (i+1) (by omega)
theorem zr4{c:za}(hc:zco c){p:Nat}(hp:p<c.partitions.length):AnsF (zqE c p) (zeq c p):=by
 have h0:=zCH hc hp (zaH c p) 0 (by omega)
 rw[← List.range_eq_range']at h0
 have n1':znb c p=some (zdg c p):=zDp hc hp
 have e8:(decide ((1:Int)<=((zb c.partitions p).regions.length:Int))&&decide (((zb c.partitions p).regions.length:Int)<=8))=(decide (1<=zaH c p)&&decide (zaH c p<=8)):=by
  rw[Bool.eq_iff_iff];simp only[Bool.and_eq_true,decide_eq_true_eq];unfold zaH P;omega
 have go : ∀ b1 b2 b3 b4:Bool,AnsF ((zbv [zag b1 405 (za2 p),zag b2 406 (za2 p),zag b3 407 (za2 p),zag b4 408 (za2 p)]).bind fun r=>X0 c p r 0) ((b1&&(b2&&(b3&&b4)))&&(!((List.range (zaH c p)).any fun k=>!(zhp c p k))&&zpt c p)):=fun b1 b2 b3 b4=>by
  obtain ⟨r,k1,k3,k4⟩:=zGY b1 b2 b3 b4 405 406 407 408 (za2 p) (za2 p) (za2 p) (za2 p) (by decide) (by decide) (by decide) (by decide)
  rw[k1,Option.bind_some]
  cases hb:b1&&(b2&&(b3&&b4))with
  | false=>
   have:=k4 hb
   rw[show X0 c p r 0=some r from zyT this]
   exact .err rfl this
  | true=>
   have:r=fine:=k3 hb
   rw[this]
   simpa using h0
 unfold zqE zzB
 dsimp only [Tree.run0,Tree.run]
 simp only[tnC,zn hp,cnT,n1',zfD,e8,id]
 have hfin:zeq c p=(zl4 c p&&(!((List.range (zaH c p)).any fun k=>!(zhp c p k))&&zpt c p)):=by
  unfold zeq zpt
  cases zl4 c p <;> cases (List.range (zaH c p)).any (fun k=>!(zhp c p k)) <;> cases zeN (P c p) <;> cases decide (zae c p<=8) <;> rfl
 rw[hfin]
 unfold zl4
 show AnsF (cond (decide (0<=(P c p).action)&&decide ((P c p).action<=2)) (cond (decide (0<=(P c p).inputs)&&decide ((P c p).inputs<=16)) _ _) (cond (decide (0<=(P c p).inputs)&&decide ((P c p).inputs<=16)) _ _)) _
 cases decide (0<=(P c p).action)&&decide ((P c p).action<=2) <;> cases decide (0<=(P c p).inputs)&&decide ((P c p).inputs<=16)
 . exact go (zdg c p) false false _
 . exact go (zdg c p) false _ _
 . exact go (zdg c p) _ false _
 . exact go (zdg c p) _ _ _
theorem zdv{R:Type}(A:Option R->Bool->Prop){n:Nat}{f:Nat->Option R}{q:Nat->Bool}{e:Bool}(hs : ∀ i,i<n->(q i=true->A (f i) false)/\(q i=false->f i=f (i+1)))(he:(∀ i,i<n->q i=false)->A (f n) e):A (f 0) (!((List.range n).any q)&&e):=by
 have : ∀ k i,i+k=n->(∀ j,j<i->q j=false)->A (f i) (!((List.range' i k).any q)&&e):=by
  intro k
  induction k with
  | zero=>intro i h hq;simp at h;subst h;simpa using he hq
  | succ k ih=>
   intro i h hq
   obtain ⟨h1,h2⟩:=hs i (by omega)
   rw[List.range'_succ,List.any_cons]
   cases hqi:q i with
   | true=>simpa using h1 hqi
   | false=>
    rw[h2 hqi]
    simpa using ih (i+1) (by omega) fun j hj=>by
     by_cases hji:j=i
     . subst hji;exact hqi
     . exact hq j (by omega)
 have h:=this n 0 (by omega) (fun j hj=>by omega)
 rwa [← List.range_eq_range']at h
def tot(g:Nat->Nat):Nat->Nat
 | 0=>0
 | n+1=>tot g n+g n
def cnt(q:Nat->Bool):Nat->Nat:=tot fun k=>cond (q k) 1 0
theorem znD{g:Nat->Nat}{b:Nat} : ∀ {n:Nat},(∀ i,i<n->g i<=b)->tot g n<=n*b
 | 0,_=>by simp[tot]
 | n+1,h=>by
  have:=znD (n:=n) fun i hi=>h i (by omega)
  have:=h n (by omega)
  simp only[tot,Nat.add_mul,Nat.one_mul];omega
theorem zbR(q:Nat->Bool)(n:Nat):cnt q n<=n:=by
 have:=znD (g:=fun k=>cond (q k) 1 0) (b:=1) (n:=n) fun i _=>by cases q i <;> simp
 unfold cnt;simpa using this
theorem zbM(q:Nat->Bool)(n:Nat):cnt q (n+1)=cnt q n+cond (q n) 1 0:=rfl
noncomputable def zbW(c:za)(h:Int)(q k:Nat):Bool:=((Pt c q k).channel==h)&&(Pt c q k).source
noncomputable def zaX(c:za)(h:Int)(q k:Nat):Bool:=((Pt c q k).channel==h)&&!(Pt c q k).source
noncomputable def zgO(c:za)(h:Int)(n:Nat):Nat:=tot (fun q=>cnt (zbW c h q) (zae c q)) n
noncomputable def ze6(c:za)(h:Int)(n:Nat):Nat:=tot (fun q=>cnt (zaX c h q) (zae c q)) n
structure Few(c:za):Prop where
 parts:c.partitions.length<=8
 ports : ∀ q,q<c.partitions.length->zae c q<=8
theorem zlG{c:za}(hw:Few c)(h:Int){n:Nat}(hn:n<=c.partitions.length):zgO c h n<=64:=by
 have:=znD (g:=fun q=>cnt (zbW c h q) (zae c q)) (b:=8) (n:=n) fun i hi=>Nat.le_trans (zbR _ _) (hw.ports i (by omega))
 have:=hw.parts
 unfold zgO;omega
theorem zlv{c:za}(hw:Few c)(h:Int){n:Nat}(hn:n<=c.partitions.length):ze6 c h n<=64:=by
 have:=znD (g:=fun q=>cnt (zaX c h q) (zae c q)) (b:=8) (n:=n) fun i hi=>Nat.le_trans (zbR _ _) (hw.ports i (by omega))
 have:=hw.parts
 unfold ze6;omega
theorem zGK{c:za}(hw:Few c)(h:Int):zew c h=some ((zgO c h c.partitions.length:Int),(ze6 c h c.partitions.length:Int)):=by
 have h8:=hw.parts
 have inner : ∀ q,q<c.partitions.length->∀ s d:Nat,s<=64->d<=64->zcz c h (.l4 (s:Int) (d:Int) (q:Int) 0)=zcz c h (.l0 ((s+cnt (zbW c h q) (zae c q):Nat):Int) ((d+cnt (zaX c h q) (zae c q):Nat):Int) ((q+1:Nat):Int)):=fun q hq s d hs hd=>by
  have hp8:=hw.ports q hq
  have:=zK (n:=zae c q) (f:=fun k (x:Nat × Nat)=>zcz c h (.l4 (x.1:Int) (x.2:Int) (q:Int) (k:Int))) (S:=fun k=>(s+cnt (zbW c h q) k,d+cnt (zaX c h q) k)) (fun k hk=>by
   have hk':k<(zb c.partitions q).ports.length:=hk
   have l1:=zbR (zbW c h q) k
   have l2:=zbR (zaX c h q) k
   dsimp only
   rw[zed]
   simp only[zf2,tnC,zn hq,cnT,zY hk',zn hk',zi (s+cnt (zbW c h q) k) (by omega),id,Tree.run,Option.bind_some]
   have e17 : ∀ a b:Int,zcz c h (.l17 a b (q:Int) (k:Int))=zcz c h (.l4 a b (q:Int) ((k+1:Nat):Int)):=fun a b=>by
    rw[zed]
    simp only[zf2,zi k (by omega),id,Tree.run,Option.bind_some]
   have e25 : ∀ a:Int,zcz c h (.l25 a ((d+cnt (zaX c h q) k:Nat):Int) (q:Int) (k:Int) (Pt c q k).channel (Pt c q k).source)=zcz c h (.l4 a ((d+cnt (zaX c h q) (k+1):Nat):Int) (q:Int) ((k+1:Nat):Int)):=fun a=>by
    rw[zed]
    simp only[zf2,zi (d+cnt (zaX c h q) k) (by omega),e17,id,Tree.run,Option.bind_some]
    rw[zbM]
    unfold zaX
    cases (Pt c q k).channel==h <;> cases (Pt c q k).source <;> rfl
   show cond ((Pt c q k).channel==h) (cond (Pt c q k).source (zcz c h (.l25 _ _ _ _ (Pt c q k).channel (Pt c q k).source)) (zcz c h (.l25 _ _ _ _ (Pt c q k).channel (Pt c q k).source))) (zcz c h (.l25 _ _ _ _ (Pt c q k).channel (Pt c q k).source))=_
   rw[e25,e25]
   rw[zbM (zbW c h q)]
   unfold zbW
   cases (Pt c q k).channel==h <;> cases (Pt c q k).source <;> rfl)
  refine Eq.trans this ?_
  dsimp only
  rw[zed]
  have hi':decide ((zae c q:Int)<((zb c.partitions q).ports.length:Int))=false:=z9 (Nat.le_refl _)
  simp only[zf2,tnC,zn hq,cnT,hi',cnF,zi q (by omega),id,Tree.run,Option.bind_some]
 have outer:=zK (n:=c.partitions.length) (f:=fun q (x:Nat × Nat)=>zcz c h (.l0 (x.1:Int) (x.2:Int) (q:Int))) (S:=fun q=>(zgO c h q,ze6 c h q)) (fun q hq=>by
  dsimp only
  rw[zed]
  simp only[zf2,zY hq,cnT,id,Tree.run,Option.bind_some]
  exact inner q hq _ _ (zlG hw h (by omega)) (zlv hw h (by omega)))
 refine Eq.trans (show _=zcz c h (.l0 0 0 0)from rfl) (Eq.trans outer ?_)
 dsimp only
 rw[zed]
 simp only[zf2,z9 (Nat.le_refl _),cnF,id,Tree.run,Option.bind_some]
theorem zGJ{c:za}(hw:Few c)(h:Int):zqP c h=some ((zgO c h c.partitions.length:Int),(ze6 c h c.partitions.length:Int)):=by
 have h8:=hw.parts
 have inner : ∀ q,q<c.partitions.length->∀ s d:Nat,s<=64->d<=64->zeS c h (.l4 (s:Int) (d:Int) (q:Int) (P c q).ports ((P c q).ports.length) 0)=zeS c h (.l0 ((s+cnt (zbW c h q) (zae c q):Nat):Int) ((d+cnt (zaX c h q) (zae c q):Nat):Int) ((q+1:Nat):Int)):=fun q hq s d hs hd=>by
  have hp8:=hw.ports q hq
  have:=zK (n:=zae c q) (f:=fun k (x:Nat × Nat)=>zeS c h (.l4 (x.1:Int) (x.2:Int) (q:Int) (P c q).ports ((P c q).ports.length) (k:Int))) (S:=fun k=>(s+cnt (zbW c h q) k,d+cnt (zaX c h q) k)) (fun k hk=>by
   have hk':k<(P c q).ports.length:=hk
   have l1:=zbR (zbW c h q) k
   have l2:=zbR (zaX c h q) k
   dsimp only
   rw[zff]
   simp only[zhJ,tnC,cnT,zY hk',zn hk',zi (s+cnt (zbW c h q) k) (by omega),zi (d+cnt (zaX c h q) k) (by omega),id,Tree.run,Option.bind_some]
   have e23 : ∀ a b:Int,zeS c h (.l23 a b (q:Int) (P c q).ports ((P c q).ports.length) (k:Int))=zeS c h (.l4 a b (q:Int) (P c q).ports ((P c q).ports.length) ((k+1:Nat):Int)):=fun a b=>by
    rw[zff]
    simp only[zhJ,zi k (by omega),id,Tree.run,Option.bind_some]
   rw[e23,e23,e23,zbM,zbM]
   unfold zbW zaX
   show cond (!((Pt c q k).channel==h)) _ (cond (Pt c q k).source _ _)=_
   cases (Pt c q k).channel==h <;> cases (Pt c q k).source <;> rfl)
  refine Eq.trans this ?_
  dsimp only
  rw[zff]
  have hi':decide ((zae c q:Int)<((P c q).ports.length:Int))=false:=z9 (Nat.le_refl _)
  simp only[zhJ,hi',cnF,zi q (by omega),id,Tree.run,Option.bind_some]
 have outer:=zK (n:=c.partitions.length) (f:=fun q (x:Nat × Nat)=>zeS c h (.l0 (x.1:Int) (x.2:Int) (q:Int))) (S:=fun q=>(zgO c h q,ze6 c h q)) (fun q hq=>by
  dsimp only
  rw[zff]
  simp only[zhJ,zY hq,zn hq,cnT,tnC,id,Tree.run,Option.bind_some]
  exact inner q hq _ _ (zlG hw h (by omega)) (zlv hw h (by omega)))
 refine Eq.trans (show _=zeS c h (.l0 0 0 0)from rfl) (Eq.trans outer ?_)
 dsimp only
 rw[zff]
 simp only[zhJ,z9 (Nat.le_refl _),cnF,id,Tree.run,Option.bind_some]
noncomputable def Ch(c:za)(h:Nat):zI:=zu c.channels h
noncomputable def zf5(c:za)(h:Nat):Bool:=
 (((decide (1<=(Ch c h).kind)&&decide ((Ch c h).kind<=2))&&(decide (1<=(Ch c h).words)&&decide ((Ch c h).words<=16)))&&cond ((Ch c h).kind==2) (decide (1<=(Ch c h).depth)&&decide ((Ch c h).depth<=8)) ((Ch c h).depth==0))&&
   (((zgO c h c.partitions.length:Int)==1)&&(decide ((1:Int)<=(ze6 c h c.partitions.length:Int))&&decide ((ze6 c h c.partitions.length:Int)<=cond ((Ch c h).kind==2) 1 4)))
theorem zxc{c:za}(hw:Few c){h:Nat}(hh:h<c.channels.length):zCn (zvW c h) (zf5 c h):=by
 have e1':zew c (h:Int)=some _:=zGK hw (h:Int)
 unfold zvW
 dsimp only [Tree.run0,Tree.run]
 have hch:zu c.channels h=Ch c h:=rfl
 simp only[zn hh,cnT,e1',Option.bind_some,zjV,id,tnC,hch]
 unfold zf5
 generalize (Ch c h).kind=kd
 generalize (Ch c h).depth=dp
 generalize hs:(zgO c h c.partitions.length:Int)=s
 generalize hd:(ze6 c h c.partitions.length:Int)=d
 generalize (decide (1<=(Ch c h).words)&&decide ((Ch c h).words<=16))=wd
 by_cases k2:kd=2
 . subst k2
   have d1:(decide (1<=d)&&decide (d<=1))=(d==1):=by rw[Bool.eq_iff_iff];simp;omega
   simp only[beq_self_eq_true,cnT,cnF,Bool.not_true,d1]
   cases wd <;> cases decide (1<=dp)&&decide (dp<=8) <;> cases s==1 <;> cases d==1 <;> exact⟨_,rfl,rfl⟩
 . have k2':(kd==2)=false:=by simpa using k2
   by_cases k1:kd=1
   . subst k1
     simp only[k2',cnT,cnF,Bool.not_false,beq_self_eq_true,Bool.not_true]
     cases wd <;> cases dp==0 <;> cases s==1 <;> cases decide (1<=d)&&decide (d<=4) <;> exact⟨_,rfl,rfl⟩
   . have k1':(kd==1)=false:=by simpa using k1
     have k12:(decide (1<=kd)&&decide (kd<=2))=false:=by
      rw[Bool.and_eq_false_iff,decide_eq_false_iff_not,decide_eq_false_iff_not];omega
     simp only[k2',k1',k12,cnT,Bool.not_false,Bool.false_and]
     exact⟨_,rfl,rfl⟩
theorem zCO{α:Type}(o:Option α):(o.bind fun r=>some r)=o:=by cases o <;> rfl
theorem zxb{c:za}(hw:Few c){h:Nat}(hh:h<c.channels.length):AnsF (zqG c h) (zf5 c h):=by
 have e1':zqP c (h:Int)=some _:=zGJ hw (h:Int)
 have hf : ∀ b1 b2 b3:Bool,AnsF ((zbv [zag b1 415 (za2 h),zag b2 416 (za2 h),zag b3 417 (za2 h)]).bind fun r=>some r) (b1&&(b2&&b3)):=fun b1 b2 b3=>by
  rw[zCO]
  exact zAa b1 b2 b3 415 416 417 (za2 h) (za2 h) (za2 h) (by decide) (by decide) (by decide)
 have l11 : ∀ (b:Bool) (m:Int),AnsF (zka c h (.l11 b m)) (((decide (1<=(Ch c h).kind)&&decide ((Ch c h).kind<=2))&&(decide (1<=(Ch c h).words)&&decide ((Ch c h).words<=16))&&b)&&(((zgO c h c.partitions.length:Int)==1)&&(decide ((1:Int)<=(ze6 c h c.partitions.length:Int))&&decide ((ze6 c h c.partitions.length:Int)<=m)))):=fun b m=>by
  rw[zxX]
  simp only[zto,e1',cnT,zfD,id,tnC,Tree.run,Option.bind_some]
  show AnsF (cond (decide (1<=(Ch c h).kind)&&decide ((Ch c h).kind<=2)) (cond (decide (1<=(Ch c h).words)&&decide ((Ch c h).words<=16)) _ _) _) _
  cases decide (1<=(Ch c h).kind)&&decide ((Ch c h).kind<=2) <;> cases decide (1<=(Ch c h).words)&&decide ((Ch c h).words<=16)
  . exact hf false _ _
  . exact hf false _ _
  . exact hf false _ _
  . exact hf b _ _
 unfold zqG zzC
 dsimp only [Tree.run0,Tree.run]
 simp only[zn hh,cnT,zfD,id,tnC]
 unfold zf5
 show AnsF (cond ((Ch c h).kind==2) (zka c h (.l11 (decide (1<=(Ch c h).depth)&&decide ((Ch c h).depth<=8)) 1)) (zka c h (.l11 ((Ch c h).depth==0) 4))) _
 cases (Ch c h).kind==2 with
 | true=>exact l11 _ _
 | false=>exact l11 _ _
noncomputable def zce(c:za)(i:Nat):Nat:=(zD c.cores i).length
noncomputable def Win(c:za)(i n:Nat):zam:=zbz (zD c.cores i) n
noncomputable def znx(c:za)(p:Int)(i n:Nat):Bool:=!(p==(-1))&&((Win c i n).partition==p)
noncomputable def zif(c:za)(k:Nat)(p:Int):Bool:=(List.range k).any fun i=>(List.range (zce c i)).any (znx c p i)
theorem zmK(b:Bool):cond b (some true) (some false)=some b:=by cases b <;> rfl
theorem zDO{c:za}(hc:zco c){k:Nat}(hk:k<=c.cores.length)(p:Int):zqM c k p=some (zif c k p):=by
 have hB:B47=140737488351232:=rfl
 have hcl:=hc.cores
 have inner : ∀ i,i<k->zfK c k p (.l4 (i:Int) 0)=cond ((List.range (zce c i)).any (znx c p i)) (some true) (zfK c k p (.l0 ((i+1:Nat):Int))):=fun i hi=>by
  have hic:i<c.cores.length:=by omega
  have hwl:zce c i*24<=B47:=hc.core i hic
  exact zas (n:=zce c i) (f:=fun n=>zfK c k p (.l4 (i:Int) (n:Int))) (q:=znx c p i) (r:=some true) (e:=zfK c k p (.l0 ((i+1:Nat):Int))) (fun n hn=>by
   have hn':n<(zD c.cores i).length:=hn
   rw[zhe]
   simp only[zjE,tnC,zn hic,cnT,zY hn',zn hn',zi n (by omega),id,zfT,Tree.run,Option.bind_some]
   rfl) (by
   rw[zhe]
   have hn':decide ((zce c i:Int)<((zD c.cores i).length:Int))=false:=z9 (Nat.le_refl _)
   simp only[zjE,tnC,zn hic,cnT,hn',cnF,zi i (by omega),id,Tree.run,Option.bind_some])
 have outer:=zas (n:=k) (f:=fun i=>zfK c k p (.l0 (i:Int))) (q:=fun i=>(List.range (zce c i)).any (znx c p i)) (r:=some true) (e:=some false) (fun i hi=>by
  rw[zhe]
  simp only[zjE,zY hi,cnT,id,Tree.run,Option.bind_some]
  exact inner i hi) (by
  rw[zhe]
  simp only[zjE,z9 (Nat.le_refl _),cnF,id,Tree.run,Option.bind_some])
 exact Eq.trans (show _=zfK c k p (.l0 0)from rfl) (Eq.trans outer (zmK _))
noncomputable def zhj(c:za)(p:Int)(i n:Nat):Bool:=decide (p>=0)&&((Win c i n).partition==p)
theorem zJp{c:za}{k i:Nat}(hi:i<k):zD ((c.cores.take k).drop 0) i=zD c.cores i:=by
 simp[zD,List.getD,List.getElem?_take,hi]
theorem zDN{c:za}(hc:zco c){k:Nat}(hk:k<=c.cores.length)(p:Int):znd c k p=some ((List.range k).any fun i=>(List.range (zce c i)).any (zhj c p i)):=by
 have hB:B47=140737488351232:=rfl
 have hcl:=hc.cores
 have htl:((c.cores.take k).drop 0).length=k:=by simp;omega
 have inner : ∀ i,i<k->zgz c k p (.l4 (i:Int) (zD c.cores i) ((zD c.cores i).length) 0)=cond ((List.range (zce c i)).any (zhj c p i)) (some true) (zgz c k p (.l0 ((i+1:Nat):Int))):=fun i hi=>by
  have hic:i<c.cores.length:=by omega
  have hwl:zce c i*24<=B47:=hc.core i hic
  exact zas (n:=zce c i) (f:=fun n=>zgz c k p (.l4 (i:Int) (zD c.cores i) ((zD c.cores i).length) (n:Int))) (q:=zhj c p i) (r:=some true) (e:=zgz c k p (.l0 ((i+1:Nat):Int))) (fun n hn=>by
   have hn':n<(zD c.cores i).length:=hn
   rw[zhf]
   simp only[zjF,tnC,cnT,zY hn',zn hn',zi n (by omega),id,zfT,Tree.run,Option.bind_some]
   rfl) (by
   rw[zhf]
   have hn':decide ((zce c i:Int)<((zD c.cores i).length:Int))=false:=z9 (Nat.le_refl _)
   simp only[zjF,hn',cnF,zi i (by omega),id,Tree.run,Option.bind_some])
 have outer:=zas (n:=k) (f:=fun i=>zgz c k p (.l0 (i:Int))) (q:=fun i=>(List.range (zce c i)).any (zhj c p i)) (r:=some true) (e:=some false) (fun i hi=>by
  rw[zhf]
  simp only[zjF,tnC,htl,zY hi,zn hi,cnT,zJp hi,id,Tree.run,Option.bind_some]
  exact inner i hi) (by
  rw[zhf]
  simp only[zjF,tnC,htl,z9 (Nat.le_refl _),cnF,id,Tree.run,Option.bind_some])
 unfold znd zzM
 dsimp only [Tree.run0,Tree.run]
 rw[zl6 hk,cnT]
 exact Eq.trans outer (zmK _)
noncomputable def sW(c:za)(k:Nat):Nat->Int
 | 0=>0
 | n+1=>i64.wrap (sW c k n+i64.wrap ((Win c k n).usable+(Win c k n).slack))
noncomputable def w1(c:za)(k n:Nat):Bool:=decide ((-1)<=(Win c k n).partition)&&decide ((Win c k n).partition<=i64.wrap ((c.partitions.length:Int)-1))
noncomputable def w2(c:za)(k n:Nat):Bool:=decide (1<=(Win c k n).usable)&&decide ((Win c k n).usable<=16384)
noncomputable def w3(c:za)(k n:Nat):Bool:=decide (82<=(Win c k n).slack)&&decide ((Win c k n).slack<=16384)
noncomputable def zCd(c:za)(k n:Nat):Bool:=!(w1 c k n&&(w2 c k n&&(w3 c k n&&!(zif c k (Win c k n).partition))))
noncomputable def ziy(c:za)(k:Nat):Bool:=(decide (1<=zce c k)&&decide (zce c k<=16))&&(!((List.range (zce c k)).any (zCd c k))&&(sW c k (zce c k)==c.major))
theorem zwe{c:za}{k:Nat}:(decide ((1:Int)<=((zD c.cores k).length:Int))&&decide (((zD c.cores k).length:Int)<=16))=(decide (1<=zce c k)&&decide (zce c k<=16)):=by
 rw[Bool.eq_iff_iff];simp only[Bool.and_eq_true,decide_eq_true_eq];unfold zce;omega
theorem zGF{c:za}(hc:zco c){k:Nat}(hk:k<c.cores.length):zc2 (zvX c k) (ziy c k):=by
 have hB:B47=140737488351232:=rfl
 have hwl:zce c k*24<=B47:=hc.core k hk
 have hl:=zdv zc2 (n:=zce c k) (f:=fun n=>zvI c k (.l0 (sW c k n) (n:Int))) (q:=zCd c k) (e:=sW c k (zce c k)==c.major) (fun n hn=>by
  have hn':n<(zD c.cores k).length:=hn
  have hW:zbz (zD c.cores k) n=Win c k n:=rfl
  have h1:(decide ((-1)<=(Win c k n).partition)&&decide ((Win c k n).partition<=i64.wrap ((c.partitions.length:Int)-1)))=w1 c k n:=rfl
  have h2:(decide (1<=(Win c k n).usable)&&decide ((Win c k n).usable<=16384))=w2 c k n:=rfl
  have h3:(decide (82<=(Win c k n).slack)&&decide ((Win c k n).slack<=16384))=w3 c k n:=rfl
  have h4:i64.wrap (sW c k n+i64.wrap ((Win c k n).usable+(Win c k n).slack))=sW c k (n+1):=rfl
  have s1':zqM c k (Win c k n).partition=some (zif c k (Win c k n).partition):=zDO hc (Nat.le_of_lt hk) (Win c k n).partition
  rw[zsE]
  simp only[zuP,tnC,zn hk,cnT,zY hn',zn hn',zjV,hW,h1,h2,h3,h4,s1',zi n (by omega),id,Tree.run,Option.bind_some]
  unfold zCd
  cases w1 c k n <;> cases w2 c k n <;> cases w3 c k n <;> cases zif c k (Win c k n).partition <;> first
   | exact⟨fun _=>⟨_,rfl,rfl⟩,fun h=>by cases h⟩
   | exact⟨fun h=>by(cases h),fun _=>rfl⟩) (fun _=>by
  rw[zsE]
  have hn':decide ((zce c k:Int)<((zD c.cores k).length:Int))=false:=z9 (Nat.le_refl _)
  simp only[zuP,tnC,zn hk,cnT,hn',cnF,id,Tree.run,Option.bind_some]
  cases sW c k (zce c k)==c.major <;> exact⟨_,rfl,rfl⟩)
 unfold zvX zEK
 dsimp only [Tree.run0,Tree.run]
 simp only[tnC,zn hk,cnT,zjV,zwe,id]
 unfold ziy
 cases decide (1<=zce c k)&&decide (zce c k<=16)with
 | false=>exact⟨_,rfl,rfl⟩
 | true=>simpa [show sW c k 0=0 from rfl]using hl
theorem zGE{c:za}(hc:zco c){k:Nat}(hk:k<c.cores.length):AnsF (zqI c k) (ziy c k):=by
 have hB:B47=140737488351232:=rfl
 have hwl:zce c k*24<=B47:=hc.core k hk
 have hl:=zdv AnsF (n:=zce c k) (f:=fun n=>zqu c k (.l0 (sW c k n) (n:Int))) (q:=zCd c k) (e:=sW c k (zce c k)==c.major) (fun n hn=>by
  have hn':n<(zD c.cores k).length:=hn
  have hW:zbz (zD c.cores k) n=Win c k n:=rfl
  have h1:(decide ((-1)<=(Win c k n).partition)&&decide ((Win c k n).partition<=i64.wrap ((c.partitions.length:Int)-1)))=w1 c k n:=rfl
  have h2:(decide (1<=(Win c k n).usable)&&decide ((Win c k n).usable<=16384))=w2 c k n:=rfl
  have h3:(decide (82<=(Win c k n).slack)&&decide ((Win c k n).slack<=16384))=w3 c k n:=rfl
  have h4:i64.wrap (sW c k n+i64.wrap ((Win c k n).usable+(Win c k n).slack))=sW c k (n+1):=rfl
  have s1':znd c k (Win c k n).partition=some _:=zDN hc (Nat.le_of_lt hk) (Win c k n).partition
  rw[zoX]
  simp only[zpI,tnC,cnT,zY hn',zn hn',zfD,hW,h1,h2,h3,h4,s1',zi n (by omega),id,zda,Tree.run,Option.bind_some]
  generalize hsp:((List.range k).any fun i=>(List.range (zce c i)).any (zhj c (Win c k n).partition i))=sa
  have hgo : ∀ b2 b3 b4:Bool,∀ X:Option zx,let o:=(zbv [zag b2 419 (zdG k n),zag b3 420 (zdG k n),zag b4 422 (zdG k n)]).bind fun r=>cond (!(zcR r)) (some r) X
   ((!(b2&&(b3&&b4)))=true->AnsF o false)/\((!(b2&&(b3&&b4)))=false->o=X):=fun b2 b3 b4 X=>by
   obtain ⟨r,k1,k3,k4⟩:=zAa b2 b3 b4 419 420 422 (zdG k n) (zdG k n) (zdG k n) (by decide) (by decide) (by decide)
   have k2':zcR r=(b2&&(b3&&b4)):=zpG k3 k4
   dsimp only
   rw[k1,Option.bind_some,k2']
   cases hb:b2&&(b3&&b4)with
   | false=>exact⟨fun _=>.err rfl (k4 hb),fun h=>by cases h⟩
   | true=>exact⟨fun h=>by(cases h),fun _=>rfl⟩
  have hsplit:w1 c k n=true->sa=zif c k (Win c k n).partition:=fun h1=>by
   simp only[w1,Bool.and_eq_true,decide_eq_true_eq]at h1
   rw[← hsp]
   unfold zif
   refine zhG fun i _=>zhG fun j _=>?_
   unfold zhj znx
   congr 1
   rw[Bool.eq_iff_iff];simp;omega
  unfold zCd
  cases hw1:w1 c k n with
  | true=>
   rw[hsplit hw1]
   exact hgo (w2 c k n) (w3 c k n) (!(zif c k (Win c k n).partition)) _
  | false=>
   refine⟨fun _=>(hgo false (w3 c k n) (!sa) _).1 rfl,fun h=>by cases h⟩) (fun _=>by
  rw[zoX]
  have hn':decide ((zce c k:Int)<((zD c.cores k).length:Int))=false:=z9 (Nat.le_refl _)
  simp only[zpI,tnC,hn',cnF,id,Tree.run,Option.bind_some]
  cases sW c k (zce c k)==c.major with
  | true=>rw[znF];exact .fine rfl
  | false=>rw[zjt];exact .err' rfl (by decide))
 unfold zqI zzD
 dsimp only [Tree.run0,Tree.run]
 simp only[tnC,zn hk,cnT,zfD,zwe,id]
 unfold ziy
 cases decide (1<=zce c k)&&decide (zce c k<=16)with
 | false=>exact .err' rfl (by decide)
 | true=>simpa [show sW c k 0=0 from rfl]using hl
noncomputable def zcn(c:za):Bool:=(decide (1<=c.frames)&&decide (c.frames<=1024))&&((decide (1<=c.major)&&decide (c.major<=16384))&&((decide (1<=c.cores.length)&&decide (c.cores.length<=4))&&((decide (1<=c.partitions.length)&&decide (c.partitions.length<=8))&&decide (c.channels.length<=16))))
noncomputable def zdL(c:za):Bool:=!((List.range c.partitions.length).any fun p=>!(zeq c p))
noncomputable def zcQ(c:za):Bool:=!((List.range c.channels.length).any fun h=>!(zf5 c h))
noncomputable def zcm(c:za):Bool:=!((List.range c.cores.length).any fun k=>!(ziy c k))
noncomputable def zlm(c:za):Bool:=zcn c&&(zdL c&&(zcQ c&&zcm c))
theorem zj1{n:Nat}{q:Nat->Bool}(h:(!((List.range n).any fun i=>!(q i)))=true) : ∀ i,i<n->q i=true:=fun i hi=>by
 have h':((List.range n).any fun i=>!(q i))=false:=by simpa using h
 have:=any_f.1 h' i hi
 simpa using this
theorem ztL{c:za}(h1:zcn c=true)(h2 : ∀ p,p<c.partitions.length->zeq c p=true):Few c:=by
 simp only[zcn,Bool.and_eq_true,decide_eq_true_eq]at h1
 refine⟨h1.2.2.2.1.2,fun q hq=>?_⟩
 have:=h2 q hq
 simp only[zeq,Bool.and_eq_true,decide_eq_true_eq]at this
 exact this.1.2
theorem zp9(n a b:Nat):(decide ((a:Int)<=(n:Int))&&decide ((n:Int)<=(b:Int)))=(decide (a<=n)&&decide (n<=b)):=by
 rw[Bool.eq_iff_iff];simp only[Bool.and_eq_true,decide_eq_true_eq];omega
theorem zwd(c:za):(zxR c==0)=zcn c:=by
 unfold zxR zcn
 dsimp only [Tree.val]
 have e1:=zp9 c.cores.length 1 4
 have e2:=zp9 c.partitions.length 1 8
 have e3:decide ((c.channels.length:Int)>16)=!(decide (c.channels.length<=16)):=by rw[ztQ];congr 1;rw[Bool.eq_iff_iff,decide_eq_true_eq,decide_eq_true_eq];omega
 simp only[zjV,id]
 rw[show(decide ((1:Int)<=(c.cores.length:Int))&&decide ((c.cores.length:Int)<=4))=_ from e1,show(decide ((1:Int)<=(c.partitions.length:Int))&&decide ((c.partitions.length:Int)<=8))=_ from e2,e3]
 cases decide (1<=c.frames)&&decide (c.frames<=1024) <;> cases decide (1<=c.major)&&decide (c.major<=16384) <;> cases decide (1<=c.cores.length)&&decide (c.cores.length<=4) <;> cases decide (1<=c.partitions.length)&&decide (c.partitions.length<=8) <;> cases decide (c.channels.length<=16) <;> rfl
theorem zCU{c:za}(hc:zco c){kb:Bool}(hk:zlm c=true->zpj c=some kb):zc2 (zfp c) (zlm c&&kb):=by
 have hB:B47=140737488351232:=rfl
 have hpl:=hc.parts
 have hcl:=hc.cores
 have hhl:=hc.chans
 unfold zfp zEu
 dsimp only [Tree.run0,Tree.run]
 rw[zwd]
 unfold zlm
 cases hw:zcn c with
 | false=>
  refine⟨_,rfl,?_⟩
  show(zxR c==0)=_
  rw[zwd,hw];rfl
 | true=>
 have h8:zcn c=true->zdL c=true->zcQ c=true->zc2 (zja c (.l8 0)) (zcm c&&kb):=fun hw hp hh=>by
  refine zdv zc2 (n:=c.cores.length) (f:=fun k=>zja c (.l8 (k:Int))) (q:=fun k=>!(ziy c k)) (e:=kb) (fun k hkk=>?_) (fun hq=>?_)
  . obtain ⟨r,k1',k2'⟩:=zGF hc hkk
    rw[zfh]
    simp only[zkD,zY hkk,cnT,k1',k2',zi k (by omega),id,Tree.run,Option.bind_some]
    cases hb:ziy c k with
    | true=>exact⟨fun h=>by(cases h),fun _=>rfl⟩
    | false=>exact⟨fun _=>⟨_,rfl,by rw[k2',hb]⟩,fun h=>by cases h⟩
  . have hco:zcm c=true:=by
     unfold zcm
     rw[any_f.2 hq];rfl
    have a1':zpj c=some kb:=hk (by unfold zlm;rw[hw,hp,hh,hco];rfl)
    rw[zfh]
    simp only[zkD,z9 (Nat.le_refl _),cnF,a1',cnT,id,Tree.run,Option.bind_some]
    cases kb <;> exact⟨_,rfl,rfl⟩
 have h4:zcn c=true->zdL c=true->zc2 (zja c (.l4 0)) (zcQ c&&(zcm c&&kb)):=fun hw hp=>by
  have hfew:=ztL hw (zj1 hp)
  refine zdv zc2 (n:=c.channels.length) (f:=fun k=>zja c (.l4 (k:Int))) (q:=fun k=>!(zf5 c k)) (e:=zcm c&&kb) (fun k hkk=>?_) (fun hq=>?_)
  . obtain ⟨r,k1',k2'⟩:=zxc hfew hkk
    rw[zfh]
    simp only[zkD,zY hkk,cnT,k1',k2',zi k (by omega),id,Tree.run,Option.bind_some]
    cases hb:zf5 c k with
    | true=>exact⟨fun h=>by(cases h),fun _=>rfl⟩
    | false=>exact⟨fun _=>⟨_,rfl,by rw[k2',hb]⟩,fun h=>by cases h⟩
  . have hco:zcQ c=true:=by
     unfold zcQ
     rw[any_f.2 hq];rfl
    rw[zfh]
    simp only[zkD,z9 (Nat.le_refl _),cnF,id,Tree.run,Option.bind_some]
    exact h8 hw hp hco
 have h0:zc2 (zja c (.l0 0)) (zdL c&&(zcQ c&&(zcm c&&kb))):=by
  refine zdv zc2 (n:=c.partitions.length) (f:=fun k=>zja c (.l0 (k:Int))) (q:=fun k=>!(zeq c k)) (e:=zcQ c&&(zcm c&&kb)) (fun k hkk=>?_) (fun hq=>?_)
  . obtain ⟨r,k1',k2'⟩:=zr5 hc hkk
    rw[zfh]
    simp only[zkD,zY hkk,cnT,k1',k2',zi k (by omega),id,Tree.run,Option.bind_some]
    cases hb:zeq c k with
    | true=>exact⟨fun h=>by(cases h),fun _=>rfl⟩
    | false=>exact⟨fun _=>⟨_,rfl,by rw[k2',hb]⟩,fun h=>by cases h⟩
  . have hco:zdL c=true:=by
     unfold zdL
     rw[any_f.2 hq];rfl
    rw[zfh]
    simp only[zkD,z9 (Nat.le_refl _),cnF,id,Tree.run,Option.bind_some]
    exact h4 hw hco
 simpa [Bool.and_assoc]using h0
noncomputable def ziH(c:za):List Clo:=[(Clo.c113 c),(Clo.c116 c),(Clo.c117 c),(Clo.c118 c),(Clo.c119 c)]
noncomputable def QL1(c:za)(n:Nat):List Clo:=ziH c++(List.range n).map fun p:Nat=>Clo.c120 c (p:Int)
noncomputable def QL2(c:za)(n:Nat):List Clo:=QL1 c c.partitions.length++(List.range n).map fun p:Nat=>Clo.c122 c (p:Int)
noncomputable def QL3(c:za)(n:Nat):List Clo:=QL2 c c.channels.length++(List.range n).map fun p:Nat=>Clo.c124 c (p:Int)
noncomputable def QL4(c:za):List Clo:=QL3 c c.cores.length++[Clo.c126 c]
theorem zbq{α:Type}(g:Nat->α)(n:Nat):(List.range (n+1)).map g=(List.range n).map g++[g n]:=by simp[List.range_succ]
theorem zqm{c:za}(hc:zco c):zBI c=some (QL4 c):=by
 have hB:B47=140737488351232:=rfl
 have hpl:=hc.parts
 have hcl:=hc.cores
 have hhl:=hc.chans
 have n1 : ∀ n,(QL1 c n).length=5+n:=fun n=>by simp[QL1,ziH];omega
 have n2 : ∀ n,(QL2 c n).length=5+c.partitions.length+n:=fun n=>by simp[QL2,n1]
 have n3 : ∀ n,(QL3 c n).length=5+c.partitions.length+c.channels.length+n:=fun n=>by simp[QL3,n2]
 have l1:=zK (n:=c.partitions.length) (f:=fun i l=>zm1 c (.l0 (i:Int) l)) (S:=QL1 c) (fun i hi=>by
  rw[zfk]
  simp only[zkG,zY hi,cnT,zi i (by omega),n1,Tree.run,Option.bind_some]
  rw[za0 (by simp only[List.length_singleton];omega),cnT]
  unfold QL1
  rw[zbq,List.append_assoc])
 have l2:=zK (n:=c.channels.length) (f:=fun i l=>zm1 c (.l4 (i:Int) l)) (S:=QL2 c) (fun i hi=>by
  rw[zfk]
  simp only[zkG,zY hi,cnT,zi i (by omega),n2,Tree.run,Option.bind_some]
  rw[za0 (by simp only[List.length_singleton];omega),cnT]
  unfold QL2
  rw[zbq,List.append_assoc])
 have l3:=zK (n:=c.cores.length) (f:=fun i l=>zm1 c (.l8 (i:Int) l)) (S:=QL3 c) (fun i hi=>by
  rw[zfk]
  simp only[zkG,zY hi,cnT,zi i (by omega),n3,Tree.run,Option.bind_some]
  rw[za0 (by simp only[List.length_singleton];omega),cnT]
  unfold QL3
  rw[zbq,List.append_assoc])
 have z1:QL1 c 0=ziH c:=by simp[QL1]
 have z2:QL2 c 0=QL1 c c.partitions.length:=by simp[QL2]
 have z3:QL3 c 0=QL2 c c.channels.length:=by simp[QL3]
 rw[z1]at l1;rw[z2]at l2;rw[z3]at l3
 refine Eq.trans (show _=zm1 c (.l0 0 (ziH c))from rfl) (Eq.trans l1 ?_)
 rw[zfk]
 simp only[zkG,z9 (Nat.le_refl _),cnF,Tree.run,Option.bind_some]
 refine Eq.trans l2 ?_
 rw[zfk]
 simp only[zkG,z9 (Nat.le_refl _),cnF,Tree.run,Option.bind_some]
 refine Eq.trans l3 ?_
 rw[zfk]
 simp only[zkG,z9 (Nat.le_refl _),cnF,n3,Tree.run,Option.bind_some]
 rw[za0 (by simp only[List.length_singleton];omega),cnT]
 rfl
theorem zym(c:za):(QL4 c).length=6+c.partitions.length+c.channels.length+c.cores.length:=by simp[QL4,QL3,QL2,QL1,ziH];omega
theorem zyl(c:za){i:Nat}(hi:i<5):zfP (QL4 c) i=(ziH c).getD i Clo.none:=by
 have h:(ziH c).length=5:=rfl
 unfold zfP QL4 QL3 QL2 QL1
 rw[zax,if_pos (by simp;omega),zax,if_pos (by simp;omega),zax,if_pos (by simp;omega),zax,if_pos (by omega)]
theorem zel{α:Type}(g:Nat->α){n i:Nat}(hi:i<n)(d:α):((List.range n).map g).getD i d=g i:=by simp[List.getD,hi]
theorem L4_1(c:za){p:Nat}(hp:p<c.partitions.length):zfP (QL4 c) (5+p)=Clo.c120 c (p:Int):=by
 have h:(ziH c).length=5:=rfl
 unfold zfP QL4 QL3 QL2 QL1
 rw[zax,if_pos (by simp;omega),zax,if_pos (by simp;omega),zax,if_pos (by simp;omega),zax,if_neg (by omega),h,Nat.add_sub_cancel_left,zel _ hp]
theorem ztf(c:za)(n:Nat):(QL1 c n).length=5+n:=by simp[QL1,ziH];omega
theorem zpB(c:za)(n:Nat):(QL2 c n).length=5+c.partitions.length+n:=by simp[QL2,ztf]
theorem zpC(c:za)(n:Nat):(QL3 c n).length=5+c.partitions.length+c.channels.length+n:=by simp[QL3,zpB]
theorem L4_2(c:za){p:Nat}(hp:p<c.channels.length):zfP (QL4 c) (5+c.partitions.length+p)=Clo.c122 c (p:Int):=by
 unfold zfP QL4
 rw[zax,if_pos (by rw[zpC];omega)]
 unfold QL3
 rw[zax,if_pos (by rw[zpB];omega)]
 unfold QL2
 rw[zax,if_neg (by rw[ztf];omega),ztf,Nat.add_sub_cancel_left,zel _ hp]
theorem L4_3(c:za){p:Nat}(hp:p<c.cores.length):zfP (QL4 c) (5+c.partitions.length+c.channels.length+p)=Clo.c124 c (p:Int):=by
 unfold zfP QL4
 rw[zax,if_pos (by rw[zpC];omega)]
 unfold QL3
 rw[zax,if_neg (by rw[zpB];omega),zpB,Nat.add_sub_cancel_left,zel _ hp]
theorem L4_4(c:za):zfP (QL4 c) (5+c.partitions.length+c.channels.length+c.cores.length)=Clo.c126 c:=by
 unfold zfP QL4
 rw[zax,if_neg (by rw[zpC];omega),zpC,Nat.sub_self]
 rfl
noncomputable def fC(c:za)(i:Nat):Option (Int × zaY):=zsn c (.l0 (QL4 c) (i:Int))
theorem zd0{c:za}(hc:zco c){i:Nat}{x:Clo}(hi:i<(QL4 c).length)(hx:zfP (QL4 c) i=x){b:Bool}{r:zx}(h1:ask x=some r)(h2:zcR r=b)(h3:b=false->r.e ≠ 0):(b=false->zc2 (fC c i) false)/\(b=true->fC c i=fC c (i+1)):=by
 have hB:B47=140737488351232:=rfl
 have hpl:=hc.parts
 have hcl:=hc.cores
 have hhl:=hc.chans
 have hl:=zym c
 unfold fC
 rw[zso]
 simp only[zuG,tnC,zY hi,zn hi,hx,h1,cnT,zda,h2,zi i (by omega),id,Tree.run,Option.bind_some]
 cases b with
 | true=>exact⟨fun h=>by(cases h),fun _=>rfl⟩
 | false=>
  refine⟨fun _=>⟨_,rfl,?_⟩,fun h=>by cases h⟩
  simpa using h3 rfl
theorem zfq{b:Bool}{e:Int}{w:zaY}(he:e ≠ 0):b=false->(zag b e w).e ≠ 0:=fun h=>by subst h;exact he
theorem zCT{c:za}(hc:zco c){kb:Bool}(hk:zlm c=true->zkg c=some kb):zc2 (zdI c) (zlm c&&kb):=by
 have hl:=zym c
 have e1:=zp9 c.cores.length 1 4
 have e2:=zp9 c.partitions.length 1 8
 have e3:decide ((c.channels.length:Int)<=16)=decide (c.channels.length<=16):=by rw[Bool.eq_iff_iff,decide_eq_true_eq,decide_eq_true_eq];omega
 have s0:=zd0 hc (i:=0) (by omega) (zyl c (by omega)) (b:=decide (1<=c.frames)&&decide (c.frames<=1024)) (r:=zag (zaZ c.frames 1 1024) 400 nowhere) rfl (by rw[zbE (by decide),zfD]) (by
  rw[zfD];exact zfq (by decide))
 have s1:=zd0 hc (i:=1) (by omega) (zyl c (by omega)) (b:=decide (1<=c.major)&&decide (c.major<=16384)) (r:=zag (zaZ c.major 1 16384) 401 nowhere) rfl (by rw[zbE (by decide),zfD]) (by
  rw[zfD];exact zfq (by decide))
 have s2:=zd0 hc (i:=2) (by omega) (zyl c (by omega)) (b:=decide (1<=c.cores.length)&&decide (c.cores.length<=4)) (r:=zag (zaZ c.cores.length 1 4) 402 nowhere) rfl (by rw[zbE (by decide),zfD];exact e1) (by
  rw[zfD,← e1];exact zfq (by decide))
 have s3:=zd0 hc (i:=3) (by omega) (zyl c (by omega)) (b:=decide (1<=c.partitions.length)&&decide (c.partitions.length<=8)) (r:=zag (zaZ c.partitions.length 1 8) 403 nowhere) rfl (by rw[zbE (by decide),zfD];exact e2) (by
  rw[zfD,← e2];exact zfq (by decide))
 have s4:=zd0 hc (i:=4) (by omega) (zyl c (by omega)) (b:=decide (c.channels.length<=16)) (r:=zag (decide ((c.channels.length:Int)<=16)) 404 nowhere) rfl (by rw[zbE (by decide),e3]) (by
  rw[e3];exact zfq (by decide))
 have hend:zlm c=true->zc2 (fC c (5+c.partitions.length+c.channels.length+c.cores.length)) kb:=fun hpre=>by
  have a1':zkg c=some kb:=hk hpre
  have b1:zqJ c=some (zag kb 423 nowhere):=by
   unfold zqJ
   dsimp only [Tree.run0,Tree.run]
   simp only[Tree.run,a1',Option.bind_some]
  have st:=zd0 hc (i:=5+c.partitions.length+c.channels.length+c.cores.length) (by omega) (L4_4 c) (b:=kb) b1 (zbE (by decide)) (zfq (by decide))
  cases hkb:kb with
  | false=>exact st.1 hkb
  | true=>
   rw[st.2 hkb]
   unfold fC
   rw[zso]
   simp only[zuG,z9 (show(QL4 c).length<=5+c.partitions.length+c.channels.length+c.cores.length+1 by omega),cnF,id,Tree.run,Option.bind_some]
   exact⟨_,rfl,rfl⟩
 have h8:zcn c=true->zdL c=true->zcQ c=true->zc2 (fC c (5+c.partitions.length+c.channels.length)) (zcm c&&kb):=fun hw hp hh=>by
  refine zdv zc2 (n:=c.cores.length) (f:=fun k=>fC c (5+c.partitions.length+c.channels.length+k)) (q:=fun k=>!(ziy c k)) (e:=kb) (fun k hkk=>?_) (fun hq=>?_)
  . obtain ⟨r,k1,k3,k4⟩:=zGE hc hkk
    have b1:zqH c k=some r:=by
     unfold zqH
     dsimp only [Tree.run0,Tree.run]
     simp only[Tree.run,k1,Option.bind_some]
    have st:=zd0 hc (by omega) (L4_3 c hkk) (b:=ziy c k) b1 (zpG k3 k4) k4
    exact⟨fun h=>st.1 (by simpa using h),fun h=>st.2 (by simpa using h)⟩
  . have hco:zcm c=true:=by
     unfold zcm
     rw[any_f.2 hq];rfl
    exact hend (by unfold zlm;rw[hw,hp,hh,hco];rfl)
 have h4:zcn c=true->zdL c=true->zc2 (fC c (5+c.partitions.length)) (zcQ c&&(zcm c&&kb)):=fun hw hp=>by
  have hfew:=ztL hw (zj1 hp)
  refine zdv zc2 (n:=c.channels.length) (f:=fun k=>fC c (5+c.partitions.length+k)) (q:=fun k=>!(zf5 c k)) (e:=zcm c&&kb) (fun k hkk=>?_) (fun hq=>?_)
  . obtain ⟨r,k1,k3,k4⟩:=zxb hfew hkk
    have b1:zqF c k=some r:=by
     unfold zqF
     dsimp only [Tree.run0,Tree.run]
     simp only[Tree.run,k1,Option.bind_some]
    have st:=zd0 hc (by omega) (L4_2 c hkk) (b:=zf5 c k) b1 (zpG k3 k4) k4
    exact⟨fun h=>st.1 (by simpa using h),fun h=>st.2 (by simpa using h)⟩
  . have hco:zcQ c=true:=by
     unfold zcQ
     rw[any_f.2 hq];rfl
    exact h8 hw hp hco
 have h0:zcn c=true->zc2 (fC c 5) (zdL c&&(zcQ c&&(zcm c&&kb))):=fun hw=>by
  refine zdv zc2 (n:=c.partitions.length) (f:=fun k=>fC c (5+k)) (q:=fun k=>!(zeq c k)) (e:=zcQ c&&(zcm c&&kb)) (fun k hkk=>?_) (fun hq=>?_)
  . obtain ⟨r,k1,k3,k4⟩:=zr4 hc hkk
    have b1:zqD c k=some r:=by
     unfold zqD
     dsimp only [Tree.run0,Tree.run]
     simp only[Tree.run,k1,Option.bind_some]
    have st:=zd0 hc (by omega) (L4_1 c hkk) (b:=zeq c k) b1 (zpG k3 k4) k4
    exact⟨fun h=>st.1 (by simpa using h),fun h=>st.2 (by simpa using h)⟩
  . have hco:zdL c=true:=by
     unfold zdL
     rw[any_f.2 hq];rfl
    exact h4 hw hco
 have hgo:zc2 (fC c 0) (zcn c&&(zdL c&&(zcQ c&&(zcm c&&kb)))):=by
  cases hw:zcn c with
  | true=>
   have hw':=hw
   simp only[zcn,Bool.and_eq_true]at hw'
   obtain ⟨⟨a1,a2⟩,⟨b1,b2⟩,⟨c1,c2⟩,⟨d1,d2⟩,d3⟩:=hw'
   rw[s0.2 (by rw[a1,a2];rfl),s1.2 (by rw[b1,b2];rfl),s2.2 (by rw[c1,c2];rfl),s3.2 (by rw[d1,d2];rfl),s4.2 d3]
   exact h0 hw
  | false=>
   show zc2 (fC c 0) false
   unfold zcn at hw
   revert hw
   cases ha:(decide (1<=c.frames)&&decide (c.frames<=1024))with
   | false=>exact fun _=>s0.1 ha
   | true=>
   rw[s0.2 ha]
   cases hb:(decide (1<=c.major)&&decide (c.major<=16384))with
   | false=>exact fun _=>s1.1 hb
   | true=>
   rw[s1.2 hb]
   cases hcc:(decide (1<=c.cores.length)&&decide (c.cores.length<=4))with
   | false=>exact fun _=>s2.1 hcc
   | true=>
   rw[s2.2 hcc]
   cases hd:(decide (1<=c.partitions.length)&&decide (c.partitions.length<=8))with
   | false=>exact fun _=>s3.1 hd
   | true=>
   rw[s3.2 hd]
   cases he:decide (c.channels.length<=16)with
   | false=>exact fun _=>s4.1 he
   | true=>intro h;cases h
 unfold zdI zEp
 dsimp only [Tree.run0,Tree.run]
 simp only[Tree.run,zqm hc,Option.bind_some]
 unfold zlm
 have hgo':zc2 (zsn c (.l0 (QL4 c) 0)) _:=hgo
 simpa [Bool.and_assoc]using hgo'
theorem zN9(a:Int):bop .quo .i64 a 16=i64.wrap (a.tdiv 16):=by kernel_rfl
theorem zOb(a:Int):bop .rem .i64 a 16=a.tmod 16:=by kernel_rfl
theorem zcg(a:Nat)(h:a<4611686018427387904):bop .quo .i64 (a:Int) 16=((a / 16:Nat):Int):=by
 rw[zN9,show(a:Int).tdiv 16=((a / 16:Nat):Int)from by rw[Int.tdiv_eq_ediv_of_nonneg (by omega)];omega]
 exact zal _ (by omega) (by omega)
theorem zha(a:Nat):bop .rem .i64 (a:Int) 16=((a % 16:Nat):Int):=by
 rw[zOb,Int.tmod_eq_emod_of_nonneg (by omega)];omega
theorem zz(n:Int)(m:Nat)(h:n=m)(hm:m<4611686018427387904):i64.wrap n=(m:Int):=by subst h;exact zal _ (by omega) (by omega)
structure zbZ(x:zI):Prop where
 kind:x.kind=1 ∨ x.kind=2
 words:1<=x.words/\x.words<=16
 depth:(x.kind=2->1<=x.depth/\x.depth<=8)/\(x.kind=1->x.depth=0)
theorem zCS{c:za}{h:Nat}(hb:zf5 c h=true):zbZ (Ch c h)/\zgO c h c.partitions.length=1/\1<=ze6 c h c.partitions.length/\ze6 c h c.partitions.length<=4:=by
 simp only[zf5,Bool.and_eq_true,decide_eq_true_eq,beq_iff_eq]at hb
 obtain ⟨⟨⟨⟨k1,k2⟩,k3,k4⟩,k5⟩,k6,k7,k8⟩:=hb
 refine⟨⟨by omega,⟨k3,k4⟩,fun hk=>?_,fun hk=>?_⟩,by omega,by omega,?_⟩
 . rw[show((Ch c h).kind==2)=true by simpa using hk]at k5
   simpa using k5
 . rw[show((Ch c h).kind==2)=false by simp;omega]at k5
   simpa using k5
 . cases hk:((Ch c h).kind==2)with
   | true=>rw[hk]at k8;simp only[cnT]at k8;omega
   | false=>rw[hk]at k8;simp only[cnF]at k8;omega
noncomputable def body(x:zI):Nat:=if x.kind=1 then x.words.toNat else x.depth.toNat*(1+x.words.toNat)
noncomputable def stg(x:zI):Nat:=if x.kind=1 then 2+x.words.toNat else 1+body x
noncomputable def prt(x:zI):Nat:=3+body x
theorem zgY{x:zI}(h:zbZ x):1<=body x/\body x<=136:=by
 have hw:=h.words
 unfold body
 split
 . omega
 . rename_i hk
   have hk2:x.kind=2:=by rcases h.kind with h | h;exact absurd h hk;exact h
   obtain ⟨d1,d2⟩:=h.depth.1 hk2
   have h1:1<=x.depth.toNat:=by omega
   have h2:x.depth.toNat<=8:=by omega
   have h3:1+x.words.toNat<=17:=by omega
   exact⟨Nat.mul_pos h1 (by omega),by have:=Nat.mul_le_mul h2 h3;omega⟩
theorem zkw{x:zI}(h:zbZ x):1<=stg x/\stg x<=137:=by
 have:=zgY h
 have hw:=h.words
 unfold stg
 split <;> omega
theorem zql{x:zI}(h:zbZ x):4<=prt x/\prt x<=139:=by have:=zgY h;unfold prt;omega
theorem zvh{a b:Int}(ha:0<=a)(hb:0<=b):a*b=((a.toNat*b.toNat:Nat):Int):=by
 rw[Int.natCast_mul,Int.toNat_of_nonneg ha,Int.toNat_of_nonneg hb]
theorem zze{x:zI}(h:zbZ x):zmL x=(body x:Int):=by
 have hl:=zgY h
 obtain ⟨w1,w2⟩:=h.words
 unfold zmL
 dsimp only [Tree.val]
 rw[decide_eq_false (by omega),decide_eq_false (by omega),cnF,cnF]
 rcases h.kind with hk | hk
 . rw[hk]
   simp only[beq_self_eq_true,cnT,id]
   unfold body;rw[if_pos hk,Int.toNat_of_nonneg (by omega)]
 . obtain ⟨d1,d2⟩:=h.depth.1 hk
   have hb:body x=x.depth.toNat*(1+x.words.toNat):=by unfold body;rw[if_neg (by omega)]
   have e1:i64.wrap (1+x.words)=((1+x.words.toNat:Nat):Int):=zz _ _ (by omega) (by omega)
   rw[hk,decide_eq_true (by omega),decide_eq_true (by omega),e1]
   have e2:i64.wrap (x.depth*((1+x.words.toNat:Nat):Int))=(body x:Int):=zz _ _ (by rw[zvh (by omega) (by omega),hb,tnC]) (by omega)
   rw[e2];rfl
theorem zDR{x:zI}(h:zbZ x):zoU x=(stg x:Int):=by
 have hl:=zgY h
 obtain ⟨w1,w2⟩:=h.words
 unfold zoU
 dsimp only [Tree.val]
 rw[zze h,show((body x:Int)==0)=false by simp;omega,cnF]
 rcases h.kind with hk | hk
 . rw[hk]
   simp only[beq_self_eq_true,cnT,id]
   rw[zz _ (2+x.words.toNat) (by omega) (by omega)]
   unfold stg;rw[if_pos hk]
 . rw[hk,zz (1+(body x:Int)) (1+body x) (by omega) (by omega)]
   unfold stg;rw[if_neg (by omega)];rfl
theorem zBb{x:zI}(h:zbZ x):zoT x=(prt x:Int):=by
 have hl:=zgY h
 unfold zoT
 dsimp only [Tree.val]
 rw[zze h,show((body x:Int)==0)=false by simp;omega,cnF,zz (3+(body x:Int)) (3+body x) (by omega) (by omega)]
 rfl
theorem zqU{x:zI}(h:zbZ x):zqt x=(stg x:Int):=by
 have hl:=zgY h
 obtain ⟨w1,w2⟩:=h.words
 unfold zqt
 dsimp only [Tree.val]
 rw[decide_eq_false (by omega),decide_eq_false (by omega),cnF,cnF]
 rcases h.kind with hk | hk
 . rw[hk]
   simp only[beq_self_eq_true,cnT,id]
   rw[zz _ (2+x.words.toNat) (by omega) (by omega)]
   unfold stg;rw[if_pos hk]
 . obtain ⟨d1,d2⟩:=h.depth.1 hk
   have hb:body x=x.depth.toNat*(1+x.words.toNat):=by unfold body;rw[if_neg (by omega)]
   have e1:i64.wrap (1+x.words)=((1+x.words.toNat:Nat):Int):=zz _ _ (by omega) (by omega)
   have e2:i64.wrap (x.depth*((1+x.words.toNat:Nat):Int))=(body x:Int):=zz _ _ (by rw[zvh (by omega) (by omega),hb,tnC]) (by omega)
   rw[hk,decide_eq_true (by omega),decide_eq_true (by omega),e1,e2,zz (1+(body x:Int)) (1+body x) (by omega) (by omega)]
   unfold stg;rw[if_neg (by omega)];rfl
theorem zI5{x:zI}(h:zbZ x):zBC x=(prt x:Int):=by
 have hl:=zkw h
 obtain ⟨w1,w2⟩:=h.words
 unfold zBC
 dsimp only [Tree.val]
 rw[zqU h,show((stg x:Int)==0)=false by simp;omega,cnF]
 rcases h.kind with hk | hk
 . rw[hk]
   simp only[beq_self_eq_true,cnT,id]
   rw[zz ((stg x:Int)+1) (stg x+1) (by omega) (by omega)]
   have:stg x+1=prt x:=by unfold stg prt body;rw[if_pos hk,if_pos hk];omega
   rw[this]
 . rw[hk,zz ((stg x:Int)+2) (stg x+2) (by omega) (by omega)]
   have:stg x+2=prt x:=by unfold stg prt;rw[if_neg (by omega)];omega
   rw[this];rfl
structure zn2(g:Region):Prop where
 page:0<=g.page/\g.page<=255
 pages:1<=g.pages/\g.pages<=256-g.page
noncomputable def zeA(x:zf)(t i:Nat):Bool:=decide ((zh x.regions i).page.toNat / 16<=t)&&decide (t<=((zh x.regions i).page.toNat+(zh x.regions i).pages.toNat-1) / 16)
noncomputable def zC(x:zf)(t:Nat):Bool:=(List.range x.regions.length).any (zeA x t)
noncomputable def zbr(x:zf):Nat:=cnt (zC x) 16
theorem zx4{x:zf}(hx:x.regions.length<=8)(hg : ∀ i,i<x.regions.length->zn2 (zh x.regions i))(t:Nat):zkf x t=some (zC x t):=by
 have h:=zas (n:=x.regions.length) (f:=fun i=>zmO x t (.l0 (i:Int))) (q:=zeA x t) (r:=some true) (e:=some false) (fun i hi=>by
  have ho:=hg i hi
  obtain ⟨p1,p2⟩:=ho.page
  obtain ⟨p3,p4⟩:=ho.pages
  rw[zoW]
  have e1:bop .quo .i64 (zh x.regions i).page 16=(((zh x.regions i).page.toNat / 16:Nat):Int):=by
   rw[← zcg _ (by omega),Int.toNat_of_nonneg p1]
  have e2:i64.wrap ((zh x.regions i).page+(zh x.regions i).pages)=(((zh x.regions i).page.toNat+(zh x.regions i).pages.toNat:Nat):Int):=zz _ _ (by omega) (by omega)
  have e3:i64.wrap ((((zh x.regions i).page.toNat+(zh x.regions i).pages.toNat:Nat):Int)-1)=(((zh x.regions i).page.toNat+(zh x.regions i).pages.toNat-1:Nat):Int):=zz _ _ (by omega) (by omega)
  simp only[zpH,tnC,zY hi,zn hi,cnT,e1,e2,e3,zcg _ (show(zh x.regions i).page.toNat+(zh x.regions i).pages.toNat-1<4611686018427387904 by omega),zi i (by omega),id,zfT,Tree.run,Option.bind_some]
  congr 1
  unfold zeA
  rw[Bool.eq_iff_iff];simp only[Bool.and_eq_true,decide_eq_true_eq];omega) (by
  rw[zoW]
  simp only[zpH,z9 (Nat.le_refl _),cnF,id,Tree.run,Option.bind_some])
 exact Eq.trans (show _=zmO x t (.l0 0)from rfl) (Eq.trans h (zmK _))
theorem zbi(b:Nat->Bool){n j:Nat}(hn:n<16)(hj:j<16):zbH (List.set ([b 0,b 1,b 2,b 3,b 4,b 5,b 6,b 7,b 8,b 9,b 10,b 11,b 12,b 13,b 14,b 15]:List Bool) n true) j=(decide (j=n) || b j):=by
 have e:([b 0,b 1,b 2,b 3,b 4,b 5,b 6,b 7,b 8,b 9,b 10,b 11,b 12,b 13,b 14,b 15]:List Bool)=(List.range 16).map b:=rfl
 rw[e]
 simp only[zbH,List.getD,List.getElem?_set,List.length_map,List.length_range,List.getElem?_map,List.getElem?_range hj]
 by_cases h:n=j
 . subst h;simp[hj]
 . rw[if_neg h,decide_eq_false (fun e=>h e.symm)];simp
theorem zy9(b:Nat->Bool){j:Nat}(hj:j<16):zbH ([b 0,b 1,b 2,b 3,b 4,b 5,b 6,b 7,b 8,b 9,b 10,b 11,b 12,b 13,b 14,b 15]:List Bool) j=b j:=by
 have e:([b 0,b 1,b 2,b 3,b 4,b 5,b 6,b 7,b 8,b 9,b 10,b 11,b 12,b 13,b 14,b 15]:List Bool)=(List.range 16).map b:=rfl
 rw[e]
 simp[zbH,List.getD,hj]
noncomputable def T0(x:zf)(i:Nat)(b:Nat->Bool):Option Int:=zk9 x (.l0 (i:Int) (b 0) (b 1) (b 2) (b 3) (b 4) (b 5) (b 6) (b 7) (b 8) (b 9) (b 10) (b 11) (b 12) (b 13) (b 14) (b 15))
noncomputable def T4(x:zf)(i k:Nat)(b:Nat->Bool):Option Int:=zk9 x (.l4 (i:Int) (zh x.regions i).pages (k:Int) (b 0) (b 1) (b 2) (b 3) (b 4) (b 5) (b 6) (b 7) (b 8) (b 9) (b 10) (b 11) (b 12) (b 13) (b 14) (b 15) (zh x.regions i).page (zh x.regions i).pages (zh x.regions i).frame (zh x.regions i).rights)
noncomputable def T8(x:zf)(n:Int)(b:Nat->Bool)(t:Nat):Option Int:=zk9 x (.l8 n (b 0) (b 1) (b 2) (b 3) (b 4) (b 5) (b 6) (b 7) (b 8) (b 9) (b 10) (b 11) (b 12) (b 13) (b 14) (b 15) (t:Int))
theorem zCF{x:zf}{i k:Nat}(ho:zn2 (zh x.regions i))(hk:(k:Int)<(zh x.regions i).pages)(b:Nat->Bool):T4 x i k b=T4 x i (k+1) fun j=>decide (j=((zh x.regions i).page.toNat+k) / 16) || b j:=by
 obtain ⟨p1,p2⟩:=ho.page
 obtain ⟨p3,p4⟩:=ho.pages
 have e1:i64.wrap ((zh x.regions i).page+(k:Int))=(((zh x.regions i).page.toNat+k:Nat):Int):=zz _ _ (by omega) (by omega)
 have hn:((zh x.regions i).page.toNat+k) / 16<16:=by omega
 unfold T4
 rw[zev]
 simp only[zix,decide_eq_true hk,cnT,e1,zcg _ (show(zh x.regions i).page.toNat+k<4611686018427387904 by omega),tnC,zn hn,zi k (by omega),id,Tree.run,Option.bind_some]
 rw[zbi b hn (show 0<16 by omega),zbi b hn (show 1<16 by omega),zbi b hn (show 2<16 by omega),zbi b hn (show 3<16 by omega),zbi b hn (show 4<16 by omega),zbi b hn (show 5<16 by omega),zbi b hn (show 6<16 by omega),zbi b hn (show 7<16 by omega),zbi b hn (show 8<16 by omega),zbi b hn (show 9<16 by omega),zbi b hn (show 10<16 by omega),zbi b hn (show 11<16 by omega),zbi b hn (show 12<16 by omega),zbi b hn (show 13<16 by omega),zbi b hn (show 14<16 by omega),zbi b hn (show 15<16 by omega)]
theorem ziu(q:Nat->Bool)(n:Nat):(List.range (n+1)).any q=((List.range n).any q || q n):=by
 rw[List.range_succ,List.any_append];simp
theorem zGm{x:zf}{i:Nat}(hi:i<4611686018427387904)(ho:zn2 (zh x.regions i))(b:Nat->Bool):T4 x i 0 b=T0 x (i+1) fun j=>b j || zeA x j i:=by
 obtain ⟨p1,p2⟩:=ho.page
 obtain ⟨p3,p4⟩:=ho.pages
 have h:=zK (n:=(zh x.regions i).pages.toNat) (f:=fun k b=>T4 x i k b) (S:=fun k j=>b j || (List.range k).any fun k'=>decide (j=((zh x.regions i).page.toNat+k') / 16)) (fun k hk=>by
  rw[zCF ho (by omega)]
  congr 1
  funext j
  rw[ziu]
  cases b j <;> cases ((List.range k).any fun k'=>decide (j=((zh x.regions i).page.toNat+k') / 16)) <;> cases decide (j=((zh x.regions i).page.toNat+k) / 16) <;> rfl)
 simp only[List.range_zero,List.any_nil,Bool.or_false]at h
 refine h.trans ?_
 have hb:(fun j=>b j || (List.range (zh x.regions i).pages.toNat).any fun k'=>decide (j=((zh x.regions i).page.toNat+k') / 16))=fun j=>b j || zeA x j i:=by
  funext j
  congr 1
  rw[Bool.eq_iff_iff,any_t]
  simp only[zeA,Bool.and_eq_true,decide_eq_true_eq]
  constructor
  . rintro ⟨k,hk,rfl⟩
    exact⟨Nat.div_le_div_right (by omega),Nat.div_le_div_right (by omega)⟩
  . rintro ⟨h1,h2⟩
    by_cases hc:16*j<=(zh x.regions i).page.toNat
    . exact⟨0,by omega,by omega⟩
    . exact⟨16*j-(zh x.regions i).page.toNat,by omega,by omega⟩
 rw[hb]
 unfold T4 T0
 rw[zev]
 have e1:decide ((((zh x.regions i).pages.toNat:Nat):Int)<(zh x.regions i).pages)=false:=decide_eq_false (by omega)
 simp only[zix,e1,cnF,zi i hi,id,Tree.run,Option.bind_some]
theorem zGl{x:zf}(hx:x.regions.length<=8)(hg : ∀ i,i<x.regions.length->zn2 (zh x.regions i)):T0 x 0 (fun _=>false)=T0 x x.regions.length (zC x):=by
 have h:=zK (n:=x.regions.length) (f:=fun i b=>T0 x i b) (S:=fun i j=>(List.range i).any (zeA x j)) (fun i hi=>by
  have e:T0 x i (fun j=>(List.range i).any (zeA x j))=T4 x i 0 (fun j=>(List.range i).any (zeA x j)):=by
   unfold T0 T4
   rw[zev]
   simp only[zix,zY hi,zn hi,cnT,tnC,id,Tree.run,Option.bind_some]
   rfl
  rw[e,zGm (by omega) (hg i hi)]
  congr 1
  funext j
  rw[ziu])
 exact h
theorem zBZ{x:zf}(hx:x.regions.length<=8)(hg : ∀ i,i<x.regions.length->zn2 (zh x.regions i)):zvU x=some (zbr x:Int):=by
 have h8:=zK (n:=16) (f:=fun t (n:Nat)=>T8 x (n:Int) (zC x) t) (S:=fun t=>cnt (zC x) t) (fun t ht=>by
  have hl:=zbR (zC x) t
  unfold T8
  have e35 : ∀ n:Int,zk9 x (.l35 n (zC x 0) (zC x 1) (zC x 2) (zC x 3) (zC x 4) (zC x 5) (zC x 6) (zC x 7) (zC x 8) (zC x 9) (zC x 10) (zC x 11) (zC x 12) (zC x 13) (zC x 14) (zC x 15) (t:Int))=zk9 x (.l8 n (zC x 0) (zC x 1) (zC x 2) (zC x 3) (zC x 4) (zC x 5) (zC x 6) (zC x 7) (zC x 8) (zC x 9) (zC x 10) (zC x 11) (zC x 12) (zC x 13) (zC x 14) (zC x 15) ((t+1:Nat):Int)):=fun n=>by
   rw[zev]
   simp only[zix,zi t (by omega),id,Tree.run,Option.bind_some]
  rw[zev]
  simp only[zix,show decide ((t:Int)<16)=true from decide_eq_true (by omega),zn ht,cnT,tnC,zy9 (zC x) ht,zi (cnt (zC x) t) (by omega),id,Tree.run,Option.bind_some]
  rw[e35,e35,zbM]
  cases zC x t <;> rfl)
 have hT:=zGl hx hg
 refine Eq.trans (show _=T0 x 0 (fun _=>false)from rfl) (Eq.trans hT ?_)
 have e:T0 x x.regions.length (zC x)=T8 x 0 (zC x) 0:=by
  unfold T0 T8
  rw[zev]
  simp only[zix,z9 (Nat.le_refl _),cnF,id,Tree.run,Option.bind_some]
  rfl
 rw[e]
 refine Eq.trans h8 ?_
 unfold T8
 rw[zev]
 simp only[zix,show decide (((16:Nat):Int)<16)=false from rfl,cnF,id,Tree.run,Option.bind_some]
 rfl
noncomputable def zdA(q:Nat->Nat->Bool)(p n:Nat):List LayoutEnd:=((List.range n).filter (q p)).map fun i:Nat=>(⟨(p:Int),(i:Int)⟩:LayoutEnd)
noncomputable def zdR(c:za)(q:Nat->Nat->Bool):Nat->List LayoutEnd
 | 0=>[]
 | n+1=>zdR c q n++zdA q n (zae c n)
theorem zfy(q:Nat->Nat->Bool)(p n:Nat):zdA q p (n+1)=zdA q p n++cond (q p n) [⟨(p:Int),(n:Int)⟩] []:=by
 unfold zdA
 rw[List.range_succ,List.filter_append,List.map_append]
 cases h:q p n <;> simp[h]
theorem ze7(q:Nat->Nat->Bool)(p:Nat) : ∀ n,(zdA q p n).length=cnt (q p) n
 | 0=>rfl
 | n+1=>by rw[zfy,List.length_append,ze7 q p n,zbM];cases q p n <;> rfl
theorem zd8(c:za)(q:Nat->Nat->Bool) : ∀ n,(zdR c q n).length=tot (fun p=>cnt (q p) (zae c p)) n
 | 0=>rfl
 | n+1=>by rw[zdR,List.length_append,zd8 c q n,ze7];rfl
noncomputable def znZ(c:za)(h:Int):List LayoutEnd:=zdR c (zbW c h) c.partitions.length
noncomputable def zGH(c:za)(h:Int):List LayoutEnd:=zdR c (zaX c h) c.partitions.length
theorem zu8{c:za}(hw:Few c)(h:Int):zpi c h=some (znZ c h,zGH c h):=by
 have h8:=hw.parts
 have inner : ∀ q,q<c.partitions.length->∀ s d:List LayoutEnd,s.length<=64->d.length<=64->zhC c h (.l4 (q:Int) (q:Int) (P c q).ports ((P c q).ports.length) 0 s d)=zhC c h (.l0 ((q+1:Nat):Int) (s++zdA (zbW c h) q (zae c q)) (d++zdA (zaX c h) q (zae c q))):=fun q hq s d hs hd=>by
  have hp8:=hw.ports q hq
  have:=zK (n:=zae c q) (f:=fun k (x:List LayoutEnd × List LayoutEnd)=>zhC c h (.l4 (q:Int) (q:Int) (P c q).ports ((P c q).ports.length) (k:Int) x.1 x.2)) (S:=fun k=>(s++zdA (zbW c h) q k,d++zdA (zaX c h) q k)) (fun k hk=>by
   have hk':k<(P c q).ports.length:=hk
   have l1:=zbR (zbW c h q) k
   have l2:=zbR (zaX c h q) k
   have e1:=ze7 (zbW c h) q k
   have e2:=ze7 (zaX c h) q k
   rw[zgE]
   have b1:leB (((s++zdA (zbW c h) q k).length+([(⟨(q:Int),(k:Int)⟩:LayoutEnd)]:List LayoutEnd).length)*16) 140737488355328=true:=za0 (by simp only[List.length_append,List.length_singleton];omega)
   have b2:leB (((d++zdA (zaX c h) q k).length+([(⟨(q:Int),(k:Int)⟩:LayoutEnd)]:List LayoutEnd).length)*16) 140737488355328=true:=za0 (by simp only[List.length_append,List.length_singleton];omega)
   simp only[zlT,tnC,cnT,zY hk',zn hk',b1,b2,id,Tree.run,Option.bind_some]
   have e23 : ∀ a b:List LayoutEnd,zhC c h (.l23 (q:Int) (q:Int) (P c q).ports ((P c q).ports.length) (k:Int) a b)=zhC c h (.l4 (q:Int) (q:Int) (P c q).ports ((P c q).ports.length) ((k+1:Nat):Int) a b):=fun a b=>by
    rw[zgE]
    simp only[zlT,zi k (by omega),id,Tree.run,Option.bind_some]
   rw[e23,e23,e23,zfy,zfy]
   unfold zbW zaX
   show cond (!((Pt c q k).channel==h)) _ (cond (Pt c q k).source _ _)=_
   cases (Pt c q k).channel==h <;> cases (Pt c q k).source <;> simp)
  dsimp only at this
  rw[show zdA (zbW c h) q 0=[]from rfl,show zdA (zaX c h) q 0=[]from rfl,List.append_nil,List.append_nil]at this
  refine Eq.trans this ?_
  rw[zgE]
  have hi':decide ((zae c q:Int)<((P c q).ports.length:Int))=false:=z9 (Nat.le_refl _)
  simp only[zlT,hi',cnF,zi q (by omega),id,Tree.run,Option.bind_some]
 have outer:=zK (n:=c.partitions.length) (f:=fun q (x:List LayoutEnd × List LayoutEnd)=>zhC c h (.l0 (q:Int) x.1 x.2)) (S:=fun q=>(zdR c (zbW c h) q,zdR c (zaX c h) q)) (fun q hq=>by
  rw[zgE]
  simp only[zlT,zY hq,zn hq,cnT,tnC,id,Tree.run,Option.bind_some]
  have s1:=zlG hw h (n:=q) (by omega)
  have s2:=zlv hw h (n:=q) (by omega)
  exact inner q hq _ _ (by rw[zd8];exact s1) (by rw[zd8];exact s2))
 refine Eq.trans (show _=zhC c h (.l0 0 [] [])from rfl) (Eq.trans outer ?_)
 rw[zgE]
 simp only[zlT,z9 (Nat.le_refl _),cnF,id,Tree.run,Option.bind_some]
 rfl
theorem zs0(c:za)(h:Int):(znZ c h).length=zgO c h c.partitions.length:=zd8 c _ _
theorem zrr(c:za)(h:Int):(zGH c h).length=ze6 c h c.partitions.length:=zd8 c _ _
structure zuz(c:za)(g:Region):Prop where
 ok:zn2 g
 frame:0<=g.frame
 fits:g.frame+g.pages<=c.frames
structure zaA(c:za):Prop where
 few:Few c
 frames:1<=c.frames/\c.frames<=1024
 least:1<=c.partitions.length
 chans:c.channels.length<=16
 nregs : ∀ p,p<c.partitions.length->1<=zaH c p/\zaH c p<=8
 regs : ∀ p k,p<c.partitions.length->k<zaH c p->zuz c (Rg c p k)
 regb : ∀ p k,p<c.partitions.length->k<zaH c p->zhp c p k=true
 port : ∀ p k,p<c.partitions.length->k<zae c p->0<=(Pt c p k).channel/\(Pt c p k).channel<c.channels.length
 chan : ∀ h,h<c.channels.length->zbZ (Ch c h)/\zgO c h c.partitions.length=1/\1<=ze6 c h c.partitions.length/\ze6 c h c.partitions.length<=4
 part : ∀ p,p<c.partitions.length->zeq c p=true
theorem zBn{c:za}(hf:1<=c.frames/\c.frames<=1024){g:Region}(h:zgs c g=true)(hg:I64 g.frame):zuz c g:=by
 unfold zgs at h
 unfold I64 at hg
 simp only[Bool.and_eq_true,decide_eq_true_eq]at h
 obtain ⟨⟨⟨⟨⟨h1,h2⟩,h3,h4⟩,h5⟩,h6⟩,h7,h8⟩:=h
 rw[zal _ (by omega) (by omega)]at h4 h6
 exact⟨⟨⟨h1,h2⟩,⟨h3,h4⟩⟩,h5,by omega⟩
theorem zp8{c:za}(hc:zco c)(h:zlm c=true):zaA c:=by
 simp only[zlm,Bool.and_eq_true]at h
 obtain ⟨hw,hp,hh,hk⟩:=h
 have hp':=zj1 hp
 have hh':=zj1 hh
 have hfew:=ztL hw hp'
 have hw':=hw
 simp only[zcn,Bool.and_eq_true,decide_eq_true_eq]at hw'
 have hf:1<=c.frames/\c.frames<=1024:=hw'.1
 have hpart : ∀ p,p<c.partitions.length->_:=fun p hp=>by
  have:=hp' p hp
  simp only[zeq,zl4,Bool.and_eq_true,decide_eq_true_eq]at this
  exact this
 refine⟨hfew,hf,hw'.2.2.2.1.1,hw'.2.2.2.2,fun p hp=>?_,fun p k hp hk=>?_,fun p k hp hk=>?_,fun p k hp hk=>?_,fun h hh=>zCS (hh' h hh),hp'⟩
 . exact(hpart p hp).1.1.1.1.2.2.2
 . have:=zj1 (hpart p hp).1.1.1.2 k hk
   simp only[zhp,Bool.and_eq_true]at this
   exact zBn hf this.1.1 (hc.region p k hp hk).1
 . exact zj1 (hpart p hp).1.1.1.2 k hk
 . have h:=any_f.1 (by simpa using (hpart p hp).2) k hk
   unfold zfW at h
   have hcl:=hw'.2.2.2.2
   rw[zal _ (by omega) (by omega)]at h
   simp only[Bool.not_eq_false',Bool.and_eq_true,decide_eq_true_eq]at h
   omega
theorem zAC{c:za}(g:zaA c){p:Nat}(hp:p<c.partitions.length):zm7 (P c p) c.channels.length=some true:=by
 have hn:=(g.nregs p hp).2
 have hq:=g.few.ports p hp
 unfold zaH at hn
 unfold zae at hq
 have h0:=zK (n:=(P c p).regions.length) (f:=fun i (_:Unit)=>zmN (P c p) c.channels.length (.l0 (i:Int))) (S:=fun _=>()) (fun i hi=>by
  have hr:=g.regs p i hp hi
  obtain ⟨a1,a2⟩:=hr.ok.page
  obtain ⟨a3,a4⟩:=hr.ok.pages
  unfold Rg at a1 a2 a3 a4
  rw[zhb]
  simp only[zjB,tnC,zY hi,zn hi,cnT,Tree.run,Option.bind_some]
  have ew:i64.wrap (256-(zh (P c p).regions i).page)=256-(zh (P c p).regions i).page:=zal _ (by omega) (by omega)
  rw[decide_eq_false (by omega),decide_eq_false (by omega),decide_eq_false (by omega),decide_eq_false (by rw[ew];omega),zi i (by omega)]
  rfl)
 have h4:=zK (n:=(P c p).ports.length) (f:=fun i (_:Unit)=>zmN (P c p) c.channels.length (.l4 (i:Int))) (S:=fun _=>()) (fun i hi=>by
  obtain ⟨a1,a2⟩:=g.port p i hp hi
  unfold Pt at a1 a2
  rw[zhb]
  simp only[zjB,tnC,zY hi,zn hi,cnT,Tree.run,Option.bind_some]
  rw[decide_eq_false (by omega),decide_eq_false (by omega),zi i (by omega)]
  rfl)
 unfold zm7 zzA
 dsimp only [Tree.run0,Tree.run]
 rw[decide_eq_false (by omega),decide_eq_false (by omega),cnF,cnF]
 refine Eq.trans h0 ?_
 rw[zhb]
 simp only[zjB,z9 (Nat.le_refl _),cnF,Tree.run,Option.bind_some]
 refine Eq.trans h4 ?_
 rw[zhb]
 simp only[zjB,z9 (Nat.le_refl _),cnF,id,Tree.run,Option.bind_some]
theorem zzh{c:za}(g:zaA c){p:Nat}(hp:p<c.partitions.length):zm8 c (P c p)=some true:=by
 have hn:=(g.nregs p hp).2
 have hq:=g.few.ports p hp
 unfold zaH at hn
 unfold zae at hq
 have h0:=zK (n:=(P c p).regions.length) (f:=fun i (_:Unit)=>zmQ c (P c p) (.l0 (i:Int))) (S:=fun _=>()) (fun i hi=>by
  have hr:=g.regs p i hp hi
  obtain ⟨a1,a2⟩:=hr.ok.page
  obtain ⟨a3,a4⟩:=hr.ok.pages
  unfold Rg at a1 a2 a3 a4
  rw[zhd]
  simp only[zjD,tnC,zY hi,zn hi,cnT,Tree.run,Option.bind_some]
  have ew:i64.wrap (256-(zh (P c p).regions i).page)=256-(zh (P c p).regions i).page:=zal _ (by omega) (by omega)
  rw[decide_eq_false (by omega),decide_eq_false (by omega),decide_eq_false (by omega),decide_eq_false (by rw[ew];omega),zi i (by omega)]
  rfl)
 have h4:=zK (n:=(P c p).ports.length) (f:=fun i (_:Unit)=>zmQ c (P c p) (.l4 (i:Int))) (S:=fun _=>()) (fun i hi=>by
  obtain ⟨a1,a2⟩:=g.port p i hp hi
  unfold Pt at a1 a2
  rw[zhd]
  simp only[zjD,tnC,zY hi,zn hi,cnT,Tree.run,Option.bind_some]
  rw[decide_eq_false (by omega),decide_eq_false (by omega),zi i (by omega)]
  rfl)
 unfold zm8 zzF
 dsimp only [Tree.run0,Tree.run]
 rw[decide_eq_false (by omega),decide_eq_false (by omega),cnF,cnF]
 refine Eq.trans h0 ?_
 rw[zhd]
 simp only[zjD,z9 (Nat.le_refl _),cnF,Tree.run,Option.bind_some]
 refine Eq.trans h4 ?_
 rw[zhd]
 simp only[zjD,z9 (Nat.le_refl _),cnF,id,Tree.run,Option.bind_some]
theorem zLL{c:za}(g:zaA c)(hk:0<=c.kernel/\c.kernel<1024):zsW c=some true:=by
 have hn:=g.few.parts
 have hq:=g.chans
 have h0:=zK (n:=c.partitions.length) (f:=fun i (_:Unit)=>zsD c (.l0 (i:Int))) (S:=fun _=>()) (fun i hi=>by
  have k1':zm8 c (zb c.partitions i)=some true:=zzh g hi
  rw[zje]
  simp only[zn8,tnC,zY hi,zn hi,cnT,k1',zi i (by omega),Tree.run,Option.bind_some]
  rfl)
 have h4:=zK (n:=c.channels.length) (f:=fun i (_:Unit)=>zsD c (.l4 (i:Int))) (S:=fun _=>()) (fun i hi=>by
  obtain ⟨o,a1,a2,a3⟩:=g.chan i hi
  have k1':zpi c (i:Int)=some _:=zu8 g.few (i:Int)
  have hs:=zkw o
  have e1:=zqU o
  unfold Ch at e1
  have l1:=zs0 c (i:Int)
  have l2:=zrr c (i:Int)
  have f1:((stg (zu c.channels i):Int)==0)=false:=by have:stg (zu c.channels i)=stg (Ch c i):=rfl;simp;omega
  have f2:((((znZ c (i:Int)).length:Nat):Int)==1)=true:=by rw[l1,a1];rfl
  rw[zje]
  simp only[zn8,tnC,zY hi,zn hi,cnT,k1',e1,f1,f2,cnF,Bool.not_true,Tree.run,Option.bind_some]
  rw[decide_eq_false (by rw[l2];omega),decide_eq_false (by rw[l2];omega),zi i (by omega)]
  have ok:=o.kind
  have od:=o.depth.2
  unfold Ch at ok od
  cases hkk:((zu c.channels i).kind==1)with
  | false=>rfl
  | true=>
   rw[od (by simpa using hkk)];rfl)
 unfold zsW zEI
 dsimp only [Tree.run0,Tree.run]
 rw[decide_eq_false (by omega),decide_eq_false (by omega),decide_eq_false (by omega),decide_eq_false (by omega),cnF,cnF,cnF,cnF]
 refine Eq.trans h0 ?_
 rw[zje]
 simp only[zn8,z9 (Nat.le_refl _),cnF,Tree.run,Option.bind_some]
 refine Eq.trans h4 ?_
 rw[zje]
 simp only[zn8,z9 (Nat.le_refl _),cnF,id,Tree.run,Option.bind_some]
noncomputable def zp3(x:zf)(h:Int)(s:Bool)(k:Nat):Bool:=((zbc x.ports k).channel==h)&&((zbc x.ports k).source==s)
theorem zrs{x:zf}(hx:x.ports.length<=8)(h:Int)(s:Bool):zke x h s=some (cnt (zp3 x h s) x.ports.length:Int):=by
 have h0:=zK (n:=x.ports.length) (f:=fun i (n:Nat)=>zh6 x h s (.l0 (n:Int) (i:Int))) (S:=fun i=>cnt (zp3 x h s) i) (fun i hi=>by
  have hl:=zbR (zp3 x h s) i
  have e15 : ∀ n:Int,zh6 x h s (.l15 n (i:Int))=zh6 x h s (.l0 n ((i+1:Nat):Int)):=fun n=>by
   rw[zj9]
   simp only[zlP,zi i (by omega),Tree.run,Option.bind_some]
  rw[zj9]
  simp only[zlP,tnC,zY hi,zn hi,cnT,zi (cnt (zp3 x h s) i) (by omega),e15,Tree.run,Option.bind_some]
  rw[zbM]
  unfold zp3
  cases (zbc x.ports i).channel==h <;> cases (zbc x.ports i).source==s <;> rfl)
 refine Eq.trans (show _=zh6 x h s (.l0 0 0)from rfl) (Eq.trans h0 ?_)
 rw[zj9]
 simp only[zlP,z9 (Nat.le_refl _),cnF,id,Tree.run,Option.bind_some]
theorem zzy(c:za)(h:Int)(p:Nat):zp3 (P c p) h true=zbW c h p:=by
 funext k;unfold zp3 zbW Pt;cases (zbc (P c p).ports k).source <;> rfl
theorem zzx(c:za)(h:Int)(p:Nat):zp3 (P c p) h false=zaX c h p:=by
 funext k;unfold zp3 zaX Pt;cases (zbc (P c p).ports k).source <;> rfl
theorem zEX{c:za}(g:zaA c)(hk:0<=c.kernel/\c.kernel<1024):znw c=some true:=by
 have hn:=g.few.parts
 have hq:=g.chans
 have h0:=zK (n:=c.partitions.length) (f:=fun i (_:Unit)=>zk8 c (.l0 (i:Int))) (S:=fun _=>()) (fun i hi=>by
  have k1':zm7 (zb c.partitions i) c.channels.length=some true:=zAC g hi
  rw[zfj]
  simp only[zkF,tnC,zY hi,zn hi,cnT,k1',zi i (by omega),Tree.run,Option.bind_some]
  rfl)
 have h8 : ∀ i,i<c.channels.length->zk8 c (.l8 (i:Int) 0 0 (i:Int) 0)=zk8 c (.l4 ((i+1:Nat):Int)):=fun i hi=>by
  obtain ⟨o,a1,a2,a3⟩:=g.chan i hi
  have h:=zK (n:=c.partitions.length) (f:=fun p (n:Nat × Nat)=>zk8 c (.l8 (i:Int) (n.1:Int) (n.2:Int) (i:Int) (p:Int))) (S:=fun p=>(zgO c i p,ze6 c i p)) (fun p hp=>by
   have k1':zke (zb c.partitions p) (i:Int) true=some _:=zrs (g.few.ports p hp) (i:Int) true
   have k3':zke (zb c.partitions p) (i:Int) false=some _:=zrs (g.few.ports p hp) (i:Int) false
   rw[zzy]at k1'
   rw[zzx]at k3'
   have b1:=zlG g.few (i:Int) (n:=p) (by omega)
   have b2:=zlv g.few (i:Int) (n:=p) (by omega)
   have b3:=zbR (zbW c i p) (P c p).ports.length
   have b4:=zbR (zaX c i p) (P c p).ports.length
   have b5:=g.few.ports p hp
   unfold zae at b5
   rw[zfj]
   simp only[zkF,tnC,zY hp,zn hp,cnT,k1',k3',zi p (by omega),Tree.run,Option.bind_some]
   rw[zz _ (zgO c i (p+1)) (by simp only[zgO,tot,zae];omega) (by simp only[zgO,tot,zae]at b1 ⊢;omega),zz _ (ze6 c i (p+1)) (by simp only[ze6,tot,zae];omega) (by simp only[ze6,tot,zae]at b2 ⊢;omega)])
  refine Eq.trans h ?_
  rw[zfj]
  have f2:((zgO c i c.partitions.length:Int)==1)=true:=by rw[a1];rfl
  simp only[zkF,z9 (Nat.le_refl _),cnF,f2,Bool.not_true,zi i (by omega),Tree.run,Option.bind_some]
  rw[decide_eq_false (by omega),decide_eq_false (by omega)]
  rfl
 have h4:=zK (n:=c.channels.length) (f:=fun i (_:Unit)=>zk8 c (.l4 (i:Int))) (S:=fun _=>()) (fun i hi=>by
  obtain ⟨o,a1,a2,a3⟩:=g.chan i hi
  have hs:=zql o
  have e1:=zBb o
  unfold Ch at e1
  have f1:((prt (zu c.channels i):Int)==0)=false:=by have:prt (zu c.channels i)=prt (Ch c i):=rfl;simp;omega
  have ok:=o.kind
  have od:=o.depth.2
  unfold Ch at ok od
  rw[zfj]
  simp only[zkF,tnC,zY hi,zn hi,cnT,e1,f1,cnF,h8 i hi,Tree.run,Option.bind_some]
  cases hkk:((zu c.channels i).kind==1)with
  | false=>rfl
  | true=>
   rw[od (by simpa using hkk)];rfl)
 unfold znw zEE
 dsimp only [Tree.run0,Tree.run]
 rw[decide_eq_false (by omega),decide_eq_false (by omega),decide_eq_false (by omega),decide_eq_false (by omega),cnF,cnF,cnF,cnF]
 refine Eq.trans h0 ?_
 rw[zfj]
 simp only[zkF,z9 (Nat.le_refl _),cnF,Tree.run,Option.bind_some]
 refine Eq.trans h4 ?_
 rw[zfj]
 simp only[zkF,z9 (Nat.le_refl _),cnF,id,Tree.run,Option.bind_some]
abbrev Pc:=Nat × Nat × zbx
def mkR(x:Pc):zk:=⟨(x.1:Int),(x.2.1:Int),x.2.2⟩
noncomputable def kF0(c:za):Nat:=c.kernel.toNat
noncomputable def pAt(c:za)(i:Nat):Nat:=16*kF0 c+2+24*i
noncomputable def dl(c:za)(k:Nat):List LayoutEnd:=zGH c (k:Int)
noncomputable def nP(c:za):Nat:=c.partitions.length
noncomputable def nC(c:za):Nat:=c.channels.length
noncomputable def cAt(c:za):Nat->Nat
 | 0=>pAt c (nP c)
 | k+1=>cAt c k+2+stg (Ch c k)+(dl c k).length*prt (Ch c k)
noncomputable def tF(c:za):Nat->Nat
 | 0=>(cAt c (nC c)+15) / 16
 | i+1=>tF c i+(1+zbr (P c i))
def za1(s:Nat):Nat->List LayoutEnd->List Pc
 | _,[]=>[]
 | a,e :: l=>(a,s,⟨8,e.partition,e.port⟩) :: za1 s (a+s) l
theorem zgq(s:Nat) : ∀ (a:Nat) (l:List LayoutEnd) (e:LayoutEnd),za1 s a (l++[e])=za1 s a l++[(a+l.length*s,s,⟨8,e.partition,e.port⟩)]
 | a,[],e=>by simp[za1]
 | a,x :: l,e=>by
  rw[List.cons_append,za1,za1,zgq s (a+s) l e,List.length_cons,List.cons_append]
  congr 4
  rw[Nat.add_mul];omega
theorem zgr(s:Nat) : ∀ (a:Nat) (l:List LayoutEnd),(za1 s a l).length=l.length
 | _,[]=>rfl
 | a,_ :: l=>by rw[za1,List.length_cons,List.length_cons,zgr s (a+s) l]
noncomputable def zfV(c:za)(i:Nat):List Pc:=[(pAt c i,2,⟨3,(i:Int),0⟩),(pAt c i+2,17,⟨4,(i:Int),0⟩),(pAt c i+19,5,⟨5,(i:Int),0⟩)]
noncomputable def zb7(c:za):Nat->List Pc
 | 0=>[]
 | i+1=>zb7 c i++zfV c i
noncomputable def zfS(c:za)(k:Nat):List Pc:=[(cAt c k,2,⟨6,(k:Int),0⟩),(cAt c k+2,stg (Ch c k),⟨7,(k:Int),0⟩)]
noncomputable def dAt(c:za)(k:Nat):Nat:=cAt c k+2+stg (Ch c k)
noncomputable def zc7(c:za):Nat->List Pc
 | 0=>[]
 | k+1=>(zc7 c k++zfS c k)++za1 (prt (Ch c k)) (dAt c k) (dl c k)
noncomputable def rep(f i:Nat):Nat->List Pc
 | 0=>[]
 | n+1=>rep f i n++[(16*(f+n),16,⟨9,(i:Int),0⟩)]
noncomputable def zez(c:za):Nat->List Pc
 | 0=>[]
 | i+1=>zez c i++rep (tF c i) i (1+zbr (P c i))
noncomputable def bar(c:za):List Pc:=[(16*kF0 c,2,⟨2,0,0⟩)]
noncomputable def zaG(c:za):List Pc:=bar c++zb7 c (nP c)++zc7 c (nC c)++zez c (nP c)
theorem zk2(c:za) : ∀ n,(zb7 c n).length=3*n
 | 0=>rfl
 | n+1=>by rw[zb7,List.length_append,zk2 c n];simp[zfV];omega
theorem zqo(f i:Nat) : ∀ n,(rep f i n).length=n
 | 0=>rfl
 | n+1=>by rw[rep,List.length_append,zqo f i n];rfl
theorem zlB(x:zf):zbr x<=16:=zbR _ _
theorem zps(c:za) : ∀ n,(zez c n).length<=17*n
 | 0=>Nat.le_refl _
 | n+1=>by rw[zez,List.length_append,zqo];have:=zps c n;have:=zlB (P c n);omega
theorem zuV{c:za}(g:zaA c){k:Nat}(hk:k<nC c):1<=(dl c k).length/\(dl c k).length<=4:=by
 obtain ⟨_,_,h1,h2⟩:=g.chan k hk
 rw[dl,zrr];exact⟨h1,h2⟩
theorem zlX{c:za}(g:zaA c) : ∀ n,n<=nC c->(zc7 c n).length<=6*n
 | 0,_=>Nat.le_refl _
 | n+1,h=>by
  rw[zc7,List.length_append,List.length_append,zgr]
  have:=zlX g n (by omega)
  have:=(zuV g (show n<nC c by omega)).2
  simp[zfS];omega
theorem zt5{c:za}(g:zaA c)(hk:0<=c.kernel/\c.kernel<1024){i:Nat}(hi:i<=nP c):pAt c i<=17000:=by
 have:=g.few.parts
 unfold nP at hi
 unfold pAt kF0;omega
theorem zzg{c:za}(g:zaA c){k:Nat}(hk:k<nC c):cAt c k+7<=cAt c (k+1)/\cAt c (k+1)<=cAt c k+700:=by
 obtain ⟨o,_⟩:=g.chan k hk
 have h1:=zkw o
 have h2:=zql o
 have h3:=zuV g hk
 have h4:=Nat.mul_le_mul h3.2 h2.2
 have h5:=Nat.mul_le_mul h3.1 h2.1
 rw[cAt];omega
theorem zzf{c:za}(g:zaA c)(hk:0<=c.kernel/\c.kernel<1024) : ∀ n,n<=nC c->cAt c n<=17000+700*n
 | 0,_=>by rw[cAt];exact zt5 g hk (Nat.le_refl _)
 | n+1,h=>by
  have:=zzf g hk n (by omega)
  have h2:=(zzg g (show n<nC c by omega)).2
  exact Nat.le_trans h2 (Nat.le_trans (Nat.add_le_add_right this 700) (Nat.le_of_eq (by rw[Nat.mul_succ,Nat.add_assoc])))
theorem zjJ{c:za}(g:zaA c)(hk:0<=c.kernel/\c.kernel<1024){n:Nat}(h:n<=nC c):cAt c n<=30000:=by
 have:=zzf g hk n h
 have:=g.chans
 unfold nC at h;omega
theorem zE9{c:za}(g:zaA c)(hk:0<=c.kernel/\c.kernel<1024) : ∀ n,tF c n<=2000+17*n
 | 0=>by rw[tF];have:=zjJ g hk (Nat.le_refl (nC c));omega
 | n+1=>by rw[tF];have:=zE9 g hk n;have:=zlB (P c n);omega
theorem zpr{c:za}(g:zaA c)(hk:0<=c.kernel/\c.kernel<1024){n:Nat}(h:n<=nP c):tF c n<=3000:=by
 have:=zE9 g hk n
 have:=g.few.parts
 unfold nP at h;omega
theorem zeG{α:Type}{xs:List α}{b:Nat}(h:xs.length<=4096)(hb:b<=100)(y:α):leB ((xs.length + [y].length)*b) 140737488355328=true:=za0 (by
 exact Nat.le_trans (Nat.mul_le_mul (show xs.length + [y].length<=4097 by rw[List.length_singleton];omega) hb) (by decide))
noncomputable def rA(c:za)(i:Nat):List Pc:=bar c++zb7 c i
noncomputable def rB(c:za)(k:Nat):List Pc:=rA c (nP c)++zc7 c k
noncomputable def rC(c:za)(i:Nat):List Pc:=rB c (nC c)++zez c i
theorem zBh{c:za}(g:zaA c){i:Nat}(hi:i<=nP c):(rA c i).length<=100:=by
 have:=g.few.parts
 unfold nP at hi
 rw[rA,List.length_append,zk2];simp[bar];omega
theorem zt9{c:za}(g:zaA c){k:Nat}(hk:k<=nC c):(rB c k).length<=200:=by
 have:=g.chans
 have h1:=zBh g (Nat.le_refl (nP c))
 have h2:=zlX g k hk
 unfold nC at hk
 rw[rB,List.length_append];omega
theorem zBi{c:za}(g:zaA c){k:Nat}(hk:k<=nP c):(rC c k).length<=400:=by
 have:=g.few.parts
 have h1:=zt9 g (Nat.le_refl (nC c))
 have h2:=zps c k
 unfold nP at hk
 rw[rC,List.length_append];omega
section
variable {c:za} (g:zaA c) (hk:0<=c.kernel/\c.kernel<1024)
noncomputable def F0(c:za)(i:Nat):Option (List zk):=zcK c (.l0 (pAt c i:Int) (i:Int) ((rA c i).map mkR))
noncomputable def F4(c:za)(k:Nat):Option (List zk):=zcK c (.l4 (cAt c k:Int) (k:Int) ((rB c k).map mkR))
noncomputable def F20(c:za)(i:Nat):Option (List zk):=zcK c (.l20 (16*tF c i:Nat) (i:Int) ((rC c i).map mkR))
include g hk
theorem zFJ:F0 c 0=F4 c 0:=by
 have h:=zK (n:=nP c) (f:=fun i (_:Unit)=>F0 c i) (S:=fun _=>()) (fun i hi=>by
  have hp:=zt5 g hk (Nat.le_of_lt hi)
  have hl:=zBh g (Nat.le_of_lt hi)
  have b1 : ∀ y:zk,leB ((((rA c i).map mkR).length + [y].length)*40) 140737488355328=true:=zeG (by rw[List.length_map];omega) (by omega)
  have b2 : ∀ x y:zk,leB ((((rA c i).map mkR++[x]).length + [y].length)*40) 140737488355328=true:=fun x=>zeG (by rw[List.length_append,List.length_map];simp;omega) (by omega)
  have b3 : ∀ w x y:zk,leB (((((rA c i).map mkR++[w])++[x]).length + [y].length)*40) 140737488355328=true:=fun w x=>zeG (by rw[List.length_append,List.length_append,List.length_map];simp;omega) (by omega)
  have e1:i64.wrap ((pAt c i:Int)+2)=((pAt c i+2:Nat):Int):=zz _ _ (by omega) (by omega)
  have e2:i64.wrap (((pAt c i+2:Nat):Int)+17)=((pAt c i+19:Nat):Int):=zz _ _ (by omega) (by omega)
  have e3:i64.wrap ((pAt c i:Int)+24)=((pAt c (i+1):Nat):Int):=zz _ _ (by unfold pAt;omega) (by unfold pAt at hp ⊢;omega)
  unfold F0
  rw[za7]
  simp only[zcE,show decide ((i:Int)<(c.partitions.length:Int))=true from zY hi,cnT,b1,b2,b3,e1,e2,e3,zi i (show i<4611686018427387904 by have:=g.few.parts;unfold nP at hi;omega),Tree.run,Option.bind_some]
  have:(rA c (i+1)).map mkR=(((rA c i).map mkR++[⟨(pAt c i:Int),2,⟨3,(i:Int),0⟩⟩])++[⟨((pAt c i+2:Nat):Int),17,⟨4,(i:Int),0⟩⟩])++[⟨((pAt c i+19:Nat):Int),5,⟨5,(i:Int),0⟩⟩]:=by
   rw[show rA c (i+1)=rA c i++zfV c i by unfold rA;rw[zb7,List.append_assoc]]
   rw[List.map_append,List.append_assoc,List.append_assoc];rfl
  rw[this])
 refine Eq.trans h ?_
 unfold F0
 rw[za7]
 have hf:decide ((nP c:Int)<(c.partitions.length:Int))=false:=z9 (Nat.le_refl _)
 simp only[zcE,hf,cnF,Tree.run,Option.bind_some]
 unfold F4
 rw[show rB c 0=rA c (nP c)by unfold rB;rw[zc7,List.append_nil]]
 rfl
noncomputable def F8(c:za)(k q:Nat):Option (List zk):=zcK c (.l8 ((dAt c k+(zdR c (zaX c (k:Int)) q).length*prt (Ch c k):Nat):Int) (k:Int) (k:Int) (q:Int) ((rB c k++zfS c k++za1 (prt (Ch c k)) (dAt c k) (zdR c (zaX c (k:Int)) q)).map mkR) (Ch c k).kind (Ch c k).words (Ch c k).depth)
noncomputable def F12(c:za)(k q i:Nat)(l:List LayoutEnd):Option (List zk):=zcK c (.l12 ((dAt c k+l.length*prt (Ch c k):Nat):Int) (k:Int) (q:Int) (k:Int) (q:Int) (zae c q) (i:Int) ((rB c k++zfS c k++za1 (prt (Ch c k)) (dAt c k) l).map mkR) (Ch c k).kind (Ch c k).words (Ch c k).depth)
theorem zyg{k q i:Nat}(hkk:k<nC c)(hq:q<nP c)(hi:i<zae c q){l:List LayoutEnd}(hl:l.length<=64):F12 c k q i l=F12 c k q (i+1) (l++cond (zaX c (k:Int) q i) [⟨(q:Int),(i:Int)⟩] []):=by
 obtain ⟨o,_⟩:=g.chan k hkk
 have hpt:=zBb o
 have hpl:=zql o
 have hst:=zkw o
 have hca:=zjJ g hk (Nat.le_of_lt hkk)
 have hrl:=zt9 g (Nat.le_of_lt hkk)
 have hn:=g.few.ports q hq
 have hml:=Nat.mul_le_mul hl hpl.2
 have hd:dAt c k<=40000:=by unfold dAt;omega
 have b1 : ∀ y:zk,leB ((((rB c k++zfS c k++za1 (prt (Ch c k)) (dAt c k) l).map mkR).length + [y].length)*40) 140737488355328=true:=zeG (by rw[List.length_map,List.length_append,List.length_append,zgr];simp[zfS];omega) (by omega)
 have e61 : ∀ (a:Int) (xs:List zk),zcK c (.l61 a (k:Int) (q:Int) (k:Int) (q:Int) (zae c q) (i:Int) xs (Ch c k).kind (Ch c k).words (Ch c k).depth)=zcK c (.l12 a (k:Int) (q:Int) (k:Int) (q:Int) (zae c q) ((i+1:Nat):Int) xs (Ch c k).kind (Ch c k).words (Ch c k).depth):=fun a xs=>by
  rw[za7]
  simp only[zcE,zi i (by omega),Tree.run,Option.bind_some]
 have e1:i64.wrap (((dAt c k+l.length*prt (Ch c k):Nat):Int)+(prt (Ch c k):Int))=((dAt c k+(l.length+1)*prt (Ch c k):Nat):Int):=zz _ _ (by rw[Nat.add_mul];omega) (by rw[Nat.add_mul];omega)
 have hi':i<(zb c.partitions q).ports.length:=hi
 have hpt':zoT (⟨(Ch c k).kind,(Ch c k).words,(Ch c k).depth⟩:zI)=(prt (Ch c k):Int):=hpt
 unfold F12
 rw[za7]
 simp only[zcE,tnC,zY hi,zn hi',zn (show q<c.partitions.length from hq),cnT,b1,hpt',e1,e61,Tree.run,Option.bind_some]
 unfold zaX Pt P
 cases (zbc (zb c.partitions q).ports i).channel==(k:Int) <;> cases (zbc (zb c.partitions q).ports i).source
 . simp only[cnF,Bool.false_and,List.append_nil]
 . simp only[cnF,Bool.false_and,List.append_nil]
 . simp only[cnT,cnF,Bool.true_and,Bool.not_false]
   rw[zgq,List.length_append,List.length_singleton,← List.append_assoc,List.map_append (l₂:=[_])]
   rfl
 . simp only[cnT,cnF,Bool.true_and,Bool.not_true,List.append_nil]
theorem zFM:F4 c 0=zcK c (.l16 (cAt c (nC c):Int) ((rB c (nC c)).map mkR)):=by
 have h:=zK (n:=nC c) (f:=fun k (_:Unit)=>F4 c k) (S:=fun _=>()) (fun k hkk=>by
  obtain ⟨o,_⟩:=g.chan k hkk
  have hst:=zkw o
  have hsr:=zDR o
  have hca:=zjJ g hk (Nat.le_of_lt hkk)
  have hrl:=zt9 g (Nat.le_of_lt hkk)
  have b1 : ∀ y:zk,leB ((((rB c k).map mkR).length + [y].length)*40) 140737488355328=true:=zeG (by rw[List.length_map];omega) (by omega)
  have b2 : ∀ x y:zk,leB ((((rB c k).map mkR++[x]).length + [y].length)*40) 140737488355328=true:=fun x=>zeG (by rw[List.length_append,List.length_map];simp;omega) (by omega)
  have e1:i64.wrap ((cAt c k:Int)+2)=((cAt c k+2:Nat):Int):=zz _ _ (by omega) (by omega)
  have e2:i64.wrap (2+(stg (Ch c k):Int))=((2+stg (Ch c k):Nat):Int):=zz _ _ (by omega) (by omega)
  have e3:i64.wrap ((cAt c k:Int)+((2+stg (Ch c k):Nat):Int))=((dAt c k:Nat):Int):=zz _ _ (by unfold dAt;omega) (by unfold dAt;omega)
  have hsr':zoU (zu c.channels k)=(stg (Ch c k):Int):=hsr
  have hk16:=g.chans
  unfold nC at hkk
  have s1:F4 c k=F8 c k 0:=by
   unfold F4 F8
   rw[za7]
   simp only[zcE,tnC,zY hkk,zn hkk,cnT,b1,b2,hsr',e1,e2,e3,Tree.run,Option.bind_some]
   rw[zdR,za1,List.append_nil,List.length_nil,Nat.zero_mul,Nat.add_zero,List.map_append,List.append_assoc]
   rfl
  have s2:=zK (n:=nP c) (f:=fun q (_:Unit)=>F8 c k q) (S:=fun _=>()) (fun q hq=>by
   have hq8:=g.few.parts
   have hq':q<c.partitions.length:=hq
   have dle : ∀ i,i<=zae c q->(zdR c (zaX c (k:Int)) q++zdA (zaX c (k:Int)) q i).length<=64:=fun i hi=>by
    rw[List.length_append,zd8,ze7]
    have hm:cnt (zaX c (k:Int) q) i<=i:=zbR _ _
    have h2:=znD (g:=fun p=>cnt (zaX c (k:Int) p) (zae c p)) (b:=8) (n:=q) fun i hi=>Nat.le_trans (zbR _ _) (g.few.ports i (by omega))
    have:=g.few.ports q hq'
    omega
   have s3:=zK (n:=zae c q) (f:=fun i (l:List LayoutEnd)=>F12 c k q i l) (S:=fun i=>zdR c (zaX c (k:Int)) q++zdA (zaX c (k:Int)) q i) (fun i hi=>by
    rw[zyg g hk hkk hq hi (dle i (Nat.le_of_lt hi)),zfy,List.append_assoc])
   have s4:F8 c k q=F12 c k q 0 (zdR c (zaX c (k:Int)) q):=by
    unfold F8 F12
    rw[za7]
    simp only[zcE,tnC,zY hq',zn hq',cnT,Tree.run,Option.bind_some]
    rfl
   rw[s4]
   rw[show zdA (zaX c (k:Int)) q 0=[]from rfl,List.append_nil]at s3
   rw[s3]
   unfold F8 F12
   rw[za7]
   have hf:decide ((zae c q:Int)<(zae c q:Int))=false:=z9 (Nat.le_refl _)
   simp only[zcE,hf,cnF,zi q (show q<4611686018427387904 by omega),Tree.run,Option.bind_some]
   rfl)
  rw[s1,s2]
  unfold F8 F4
  rw[za7]
  have hf:decide ((nP c:Int)<(c.partitions.length:Int))=false:=z9 (Nat.le_refl _)
  simp only[zcE,hf,cnF,zi k (show k<4611686018427387904 by omega),Tree.run,Option.bind_some]
  rw[show rB c (k+1)=rB c k++zfS c k++za1 (prt (Ch c k)) (dAt c k) (dl c k)by unfold rB;rw[zc7,List.append_assoc,List.append_assoc,List.append_assoc]]
  rfl)
 refine Eq.trans h ?_
 unfold F4
 rw[za7]
 have hf:decide ((nC c:Int)<(c.channels.length:Int))=false:=z9 (Nat.le_refl _)
 simp only[zcE,hf,cnF,Tree.run,Option.bind_some]
end
theorem zvv(c:za)(xs:List zk) : ∀ m a:Nat,16*((a+15) / 16)=a+m->a+m<100000->zcK c (.l16 (a:Int) xs)=zcK c (.l20 ((16*((a+15) / 16):Nat):Int) 0 xs)
 | 0,a,h,ha=>by
  have hr:a % 16=0:=by omega
  rw[h,Nat.add_zero]
  rw[za7]
  simp only[zcE,zha,hr,Tree.run,Option.bind_some]
  rfl
 | m+1,a,h,ha=>by
  have hr:((((a % 16:Nat):Int))==0)=false:=beq_eq_false_iff_ne.2 (by omega)
  have hd:(a+1+15) / 16=(a+15) / 16:=by omega
  have ih:=zvv c xs m (a+1) (by rw[hd];omega) (by omega)
  rw[hd]at ih
  rw[← ih,za7]
  simp only[zcE,zha,hr,Bool.not_false,cnT,zi a (by omega),Tree.run,Option.bind_some]
section
variable {c:za} (g:zaA c) (hk:0<=c.kernel/\c.kernel<1024)
include g hk
theorem zCo:F20 c 0=some ((zaG c).map mkR):=by
 have h:=zK (n:=nP c) (f:=fun i (_:Unit)=>F20 c i) (S:=fun _=>()) (fun i hi=>by
  have hi':i<c.partitions.length:=hi
  have hP:=g.few.parts
  have hrl:=zBi g (Nat.le_of_lt hi)
  have htf:=zpr g hk (Nat.le_of_lt hi)
  have hnt:=zlB (P c i)
  have ht : ∀ t:Int,zkf (P c i) t=zkf (P c i) t:=fun _=>rfl
  have s1:F20 c i=zcK c (.l24 (16*tF c i:Nat) (i:Int) 1 (i:Int) 0 ((rC c i).map mkR)):=by
   unfold F20
   rw[za7]
   simp only[zcE,zY hi',cnT,Tree.run,Option.bind_some]
  have s2:=zK (n:=16) (f:=fun t (n:Nat)=>zcK c (.l24 (16*tF c i:Nat) (i:Int) (n:Int) (i:Int) (t:Int) ((rC c i).map mkR))) (S:=fun t=>1+cnt (zC (P c i)) t) (fun t ht16=>by
   have hl:=zbR (zC (P c i)) t
   have k1':zkf (zb c.partitions i) (t:Int)=some (zC (P c i) t):=zx4 (g.nregs i hi').2 (fun k hkk=>(g.regs i k hi' hkk).ok) t
   have e89 : ∀ n:Int,zcK c (.l89 (16*tF c i:Nat) (i:Int) n (i:Int) (t:Int) ((rC c i).map mkR))=zcK c (.l24 (16*tF c i:Nat) (i:Int) n (i:Int) ((t+1:Nat):Int) ((rC c i).map mkR)):=fun n=>by
    rw[za7]
    simp only[zcE,zi t (show t<4611686018427387904 by omega),Tree.run,Option.bind_some]
   rw[za7]
   simp only[zcE,show decide ((t:Int)<16)=true from decide_eq_true (by omega),zn hi',tnC,cnT,k1',e89,zi (1+cnt (zC (P c i)) t) (show 1+cnt (zC (P c i)) t<4611686018427387904 by omega),Tree.run,Option.bind_some]
   rw[zbM]
   cases zC (P c i) t <;> rfl)
  have s3:zcK c (.l24 (16*tF c i:Nat) (i:Int) ((1+zbr (P c i):Nat):Int) (i:Int) ((16:Nat):Int) ((rC c i).map mkR))=zcK c (.l28 (16*tF c i:Nat) (i:Int) (i:Int) ((1+zbr (P c i):Nat):Int) 0 ((rC c i).map mkR)):=by
   rw[za7]
   simp only[zcE,show decide (((16:Nat):Int)<16)=false from rfl,cnF,Tree.run,Option.bind_some]
  have s4:=zK (n:=1+zbr (P c i)) (f:=fun j (_:Unit)=>zcK c (.l28 (16*(tF c i+j):Nat) (i:Int) (i:Int) ((1+zbr (P c i):Nat):Int) (j:Int) ((rC c i++rep (tF c i) i j).map mkR))) (S:=fun _=>()) (fun j hj=>by
   have b1 : ∀ y:zk,leB ((((rC c i++rep (tF c i) i j).map mkR).length + [y].length)*40) 140737488355328=true:=zeG (by rw[List.length_map,List.length_append,zqo];omega) (by omega)
   have e1:i64.wrap (((16*(tF c i+j):Nat):Int)+16)=((16*(tF c i+(j+1)):Nat):Int):=zz _ _ (by omega) (by omega)
   rw[za7]
   simp only[zcE,zY hj,cnT,b1,e1,zi j (show j<4611686018427387904 by omega),Tree.run,Option.bind_some]
   rw[rep,← List.append_assoc,List.map_append (l₂:=[_])]
   rfl)
  rw[s1]
  refine Eq.trans s2 (Eq.trans s3 (Eq.trans (Eq.trans ?_ s4) ?_))
  . rw[rep,List.append_nil];rfl
  . rw[za7]
    simp only[zcE,z9 (Nat.le_refl _),cnF,zi i (show i<4611686018427387904 by omega),Tree.run,Option.bind_some]
    unfold F20
    rw[show rC c (i+1)=rC c i++rep (tF c i) i (1+zbr (P c i))by unfold rC;rw[zez,List.append_assoc],tF])
 refine Eq.trans h ?_
 unfold F20
 rw[za7]
 have hf:decide ((nP c:Int)<(c.partitions.length:Int))=false:=z9 (Nat.le_refl _)
 simp only[zcE,hf,cnF,id,Tree.run,Option.bind_some]
 rfl
theorem ziW:zjo c=some ((zaG c).map mkR):=by
 have hP:=g.few.parts
 have e0:i64.wrap (16*c.kernel)=((16*kF0 c:Nat):Int):=zz _ _ (by unfold kF0;omega) (by unfold kF0;omega)
 have e1:i64.wrap (((16*kF0 c:Nat):Int)+2)=((pAt c 0:Nat):Int):=zz _ _ (by unfold pAt;omega) (by unfold pAt kF0;omega)
 have hc:=zjJ g hk (Nat.le_refl (nC c))
 unfold zjo zEF
 dsimp only [Tree.run0,Tree.run]
 rw[e0,e1,zeG (by simp) (by omega),cnT]
 refine Eq.trans (show _=F0 c 0 from ?_) ?_
 . unfold F0
   rw[show rA c 0=bar c by unfold rA;rw[zb7,List.append_nil]]
   rfl
 . rw[zFJ g hk,zFM g hk,zvv c _ (16*((cAt c (nC c)+15) / 16)-cAt c (nC c)) (cAt c (nC c)) (by omega) (by omega)]
   rw[← zCo g hk]
   unfold F20
   rw[show rC c 0=rB c (nC c)by unfold rC;rw[zez,List.append_nil],tF]
   rfl
end
def zb5(s:Nat):Nat->List LayoutEnd->List zaW
 | _,[]=>[]
 | a,e :: l=>⟨e.partition,e.port,(a:Int)⟩ :: zb5 s (a+s) l
theorem zf9(s:Nat) : ∀ (a:Nat) (l:List LayoutEnd) (e:LayoutEnd),zb5 s a (l++[e])=zb5 s a l++[⟨e.partition,e.port,((a+l.length*s:Nat):Int)⟩]
 | a,[],e=>by simp[zb5]
 | a,x :: l,e=>by
  rw[List.cons_append,zb5,zb5,zf9 s (a+s) l e,List.length_cons,List.cons_append]
  rw[show a+s+l.length*s=a+(l.length+1)*s by rw[Nat.add_mul];omega]
theorem zga(s:Nat) : ∀ (a:Nat) (l:List LayoutEnd),(zb5 s a l).length=l.length
 | _,[]=>rfl
 | a,_ :: l=>by rw[zb5,List.length_cons,List.length_cons,zga s (a+s) l]
noncomputable def base(c:za)(i:Nat):zj:=⟨(pAt c i:Int),((pAt c i+2:Nat):Int),((pAt c i+19:Nat):Int),0,[]⟩
def zht(f j:Nat):List Int:=(List.range j).map fun t:Nat=>((f+1+t:Nat):Int)
noncomputable def full(c:za)(i:Nat):zj:=⟨(pAt c i:Int),((pAt c i+2:Nat):Int),((pAt c i+19:Nat):Int),(tF c i:Int),zht (tF c i) (zbr (P c i))⟩
noncomputable def srcE(c:za)(k:Nat):LayoutEnd:=z7 (znZ c (k:Int)) 0
noncomputable def zxa(c:za)(k:Nat):zE:=⟨(cAt c k:Int),((cAt c k+2:Nat):Int),(srcE c k).partition,(srcE c k).port,zb5 (prt (Ch c k)) (dAt c k) (dl c k)⟩
noncomputable def plA(c:za)(n:Nat):List zj:=(List.range n).map (base c)
noncomputable def plT(c:za)(i:Nat):List zj:=(List.range (nP c)).map fun q=>if q<i then full c q else base c q
noncomputable def chL(c:za)(n:Nat):List zE:=(List.range n).map (zxa c)
noncomputable def lay(c:za):zaQ:=⟨((16*kF0 c:Nat):Int),plT c (nP c),chL c (nC c),(tF c (nP c):Int)⟩
theorem zgj(n h:Int):zb8 n h=(h,i64.wrap (h+n)):=rfl
theorem zqV(n:Int):znY n=n:=rfl
theorem ziX(c:za)(i:Nat):(plT c i).length=nP c:=by simp[plT]
theorem zGx{xs:List zj}{i:Nat}{y:zj}(h:i<xs.length):zm (List.set xs i y) i=y:=by
 simp[zm,List.getD,List.getElem?_set,h]
theorem zqh{c:za}{i j:Nat}(hj:j<nP c):zm (plT c i) j=if j<i then full c j else base c j:=by
 simp[zm,List.getD,plT,hj]
theorem zDz{c:za}{i:Nat}(hi:i<nP c):List.set (plT c i) i (full c i)=plT c (i+1):=by
 apply List.ext_getElem
 . simp[plT]
 . intro j h1 h2
   simp only[plT,List.getElem_set,List.getElem_map,List.getElem_range]
   by_cases hj:i=j
   . subst hj;rw[if_pos rfl,if_pos (by omega)]
   . rw[if_neg hj]
     by_cases h3:j<i
     . rw[if_pos h3,if_pos (by omega)]
     . rw[if_neg h3,if_neg (by omega)]
section
variable {c:za} (g:zaA c) (hk:0<=c.kernel/\c.kernel<1024)
include g hk
theorem zFO:zcJ c (.l0 0 (pAt c 0:Int) [])=zcJ c (.l4 0 (cAt c 0:Int) (plA c (nP c)) []):=by
 have h:=zK (n:=nP c) (f:=fun i (_:Unit)=>zcJ c (.l0 (i:Int) (pAt c i:Int) (plA c i))) (S:=fun _=>()) (fun i hi=>by
  have hi':i<c.partitions.length:=hi
  have hP:=g.few.parts
  have hp:=zt5 g hk (Nat.le_of_lt hi)
  have b1 : ∀ y:zj,leB (((plA c i).length + [y].length)*56) 140737488355328=true:=zeG (by simp[plA];omega) (by omega)
  have e1:i64.wrap ((pAt c i:Int)+2)=((pAt c i+2:Nat):Int):=zz _ _ (by omega) (by omega)
  have e2:i64.wrap (((pAt c i+2:Nat):Int)+17)=((pAt c i+19:Nat):Int):=zz _ _ (by omega) (by omega)
  have e3:i64.wrap (((pAt c i+19:Nat):Int)+5)=((pAt c (i+1):Nat):Int):=zz _ _ (by unfold pAt;omega) (by unfold pAt at hp ⊢;omega)
  rw[zcu]
  simp only[zfQ,zY hi',cnT,zgj,e1,e2,e3,b1,zi i (show i<4611686018427387904 by omega),Tree.run,Option.bind_some]
  rw[show plA c (i+1)=plA c i++[base c i]from zbq _ _]
  rfl)
 refine Eq.trans h ?_
 rw[zcu]
 have hf:decide ((nP c:Int)<(c.partitions.length:Int))=false:=z9 (Nat.le_refl _)
 simp only[zfQ,hf,cnF,Tree.run,Option.bind_some]
 rfl
theorem zCq{k:Nat}(hkk:k<nC c):zcJ c (.l4 (k:Int) (cAt c k:Int) (plA c (nP c)) (chL c k))=zcJ c (.l4 ((k+1:Nat):Int) (cAt c (k+1):Int) (plA c (nP c)) (chL c (k+1))):=by
 have hkk':k<c.channels.length:=hkk
 have hC:=g.chans
 obtain ⟨o,a1,_⟩:=g.chan k hkk'
 have hst:=zkw o
 have hpl:=zql o
 have hca:=zjJ g hk (Nat.le_of_lt hkk)
 have k1':zpi c (k:Int)=some (znZ c (k:Int),dl c k):=zu8 g.few (k:Int)
 have hs1:(znZ c (k:Int)).length=1:=by rw[zs0];exact a1
 have hr:zN 0 (znZ c (k:Int)).length=true:=by rw[hs1];rfl
 have e1:i64.wrap ((cAt c k:Int)+2)=((cAt c k+2:Nat):Int):=zz _ _ (by omega) (by omega)
 have e2:i64.wrap (((cAt c k+2:Nat):Int)+(stg (Ch c k):Int))=((dAt c k:Nat):Int):=zz _ _ (by unfold dAt;omega) (by unfold dAt;omega)
 have hsr':zqt (zu c.channels k)=(stg (Ch c k):Int):=zqU o
 have hd4:=(zuV g hkk).2
 have hd:dAt c k<=40000:=by unfold dAt;omega
 have s1:zcJ c (.l4 (k:Int) (cAt c k:Int) (plA c (nP c)) (chL c k))=zcJ c (.l8 (znZ c (k:Int),dl c k) (k:Int) 0 (dAt c k:Int) (plA c (nP c)) (chL c k) (Ch c k).kind (Ch c k).words (Ch c k).depth (cAt c k:Int) ((cAt c k+2:Nat):Int) []):=by
  rw[zcu]
  simp only[zfQ,zY hkk',zn hkk',tnC,cnT,zgj,k1',hr,hsr',e1,e2,Tree.run,Option.bind_some]
  rfl
 have s2:=zK (n:=(dl c k).length) (f:=fun j (_:Unit)=>zcJ c (.l8 (znZ c (k:Int),dl c k) (k:Int) (j:Int) ((dAt c k+j*prt (Ch c k):Nat):Int) (plA c (nP c)) (chL c k) (Ch c k).kind (Ch c k).words (Ch c k).depth (cAt c k:Int) ((cAt c k+2:Nat):Int) (zb5 (prt (Ch c k)) (dAt c k) ((dl c k).take j)))) (S:=fun _=>()) (fun j hj=>by
  have b1 : ∀ y:zaW,leB (((zb5 (prt (Ch c k)) (dAt c k) ((dl c k).take j)).length + [y].length)*24) 140737488355328=true:=zeG (by rw[zga,List.length_take];omega) (by omega)
  have hm:=Nat.mul_le_mul (show j<=4 by omega) hpl.2
  have e3:i64.wrap (((dAt c k+j*prt (Ch c k):Nat):Int)+(prt (Ch c k):Int))=((dAt c k+(j+1)*prt (Ch c k):Nat):Int):=zz _ _ (by rw[Nat.add_mul];omega) (by rw[Nat.add_mul];omega)
  have hpr':zBC (⟨(Ch c k).kind,(Ch c k).words,(Ch c k).depth⟩:zI)=(prt (Ch c k):Int):=zI5 o
  rw[zcu]
  simp only[zfQ,zY hj,zn hj,tnC,cnT,zgj,b1,hpr',e3,zi j (show j<4611686018427387904 by omega),Tree.run,Option.bind_some]
  have ht:(dl c k).take (j+1)=(dl c k).take j++[z7 (dl c k) j]:=by
   rw[List.take_add_one];simp[z7,List.getD,hj]
  rw[ht,zf9,List.length_take,Nat.min_eq_left (Nat.le_of_lt hj)])
 have s3:zcJ c (.l8 (znZ c (k:Int),dl c k) (k:Int) ((dl c k).length:Int) ((dAt c k+(dl c k).length*prt (Ch c k):Nat):Int) (plA c (nP c)) (chL c k) (Ch c k).kind (Ch c k).words (Ch c k).depth (cAt c k:Int) ((cAt c k+2:Nat):Int) (zb5 (prt (Ch c k)) (dAt c k) (dl c k)))=zcJ c (.l4 ((k+1:Nat):Int) (cAt c (k+1):Int) (plA c (nP c)) (chL c (k+1))):=by
  have b1 : ∀ y:zE,leB (((chL c k).length + [y].length)*56) 140737488355328=true:=zeG (by simp[chL];omega) (by omega)
  rw[zcu]
  simp only[zfQ,z9 (Nat.le_refl _),cnF,b1,cnT,zi k (show k<4611686018427387904 by omega),Tree.run,Option.bind_some]
  rw[show chL c (k+1)=chL c k++[zxa c k]from zbq _ _]
  rfl
 rw[List.take_length]at s2
 exact s1.trans ((show _=_ from by rw[Nat.zero_mul,Nat.add_zero,List.take_zero]at s2;exact s2).trans s3)
theorem zyi{i:Nat}(hi:i<nP c):zcJ c (.l12 (i:Int) (plT c i) (chL c (nC c)) (tF c i:Int))=zcJ c (.l12 ((i+1:Nat):Int) (plT c (i+1)) (chL c (nC c)) (tF c (i+1):Int)):=by
 have hi':i<c.partitions.length:=hi
 have hP:=g.few.parts
 have htf:=zpr g hk (Nat.le_of_lt hi)
 have hnt:=zlB (P c i)
 have k1':zvU (zb c.partitions i)=some (zbr (P c i):Int):=zBZ (g.nregs i hi').2 (fun k hkk=>(g.regs i k hi' hkk).ok)
 have hl:i<(plT c i).length:=by rw[ziX];exact hi
 have hb:zm (plT c i) i=base c i:=by rw[zqh hi,if_neg (Nat.lt_irrefl _)]
 have s1:zcJ c (.l12 (i:Int) (plT c i) (chL c (nC c)) (tF c i:Int))=zcJ c (.l16 (zbr (P c i):Int) (i:Int) (i:Int) 0 (List.set (plT c i) i ⟨(pAt c i:Int),((pAt c i+2:Nat):Int),((pAt c i+19:Nat):Int),(tF c i:Int),zht (tF c i) 0⟩) (chL c (nC c)) ((tF c i+1:Nat):Int)):=by
  have e1:i64.wrap ((tF c i:Int)+1)=((tF c i+1:Nat):Int):=zz _ _ (by omega) (by omega)
  rw[zcu]
  simp only[zfQ,zY hi',zn hi',zn hl,tnC,cnT,zgj,k1',hb,e1,Tree.run,Option.bind_some]
  rfl
 have s2:=zK (n:=zbr (P c i)) (f:=fun j (_:Unit)=>zcJ c (.l16 (zbr (P c i):Int) (i:Int) (i:Int) (j:Int) (List.set (plT c i) i ⟨(pAt c i:Int),((pAt c i+2:Nat):Int),((pAt c i+19:Nat):Int),(tF c i:Int),zht (tF c i) j⟩) (chL c (nC c)) ((tF c i+1+j:Nat):Int))) (S:=fun _=>()) (fun j hj=>by
  have hl2 : ∀ y,i<(List.set (plT c i) i y).length:=fun y=>by rw[List.length_set];exact hl
  have e1:i64.wrap (((tF c i+1+j:Nat):Int)+1)=((tF c i+1+(j+1):Nat):Int):=zz _ _ (by omega) (by omega)
  have b1 : ∀ y:Int,leB (((zht (tF c i) j).length + [y].length)*8) 140737488355328=true:=zeG (by simp[zht];omega) (by omega)
  rw[zcu]
  simp only[zfQ,zY hj,zn (hl2 _),tnC,cnT,zgj,zGx hl,b1,e1,List.set_set,Nat.beq_refl,zi j (show j<4611686018427387904 by omega),Tree.run,Option.bind_some]
  rw[show zht (tF c i) (j+1)=zht (tF c i) j++[((tF c i+1+j:Nat):Int)]from zbq _ _])
 rw[s1]
 refine Eq.trans s2 ?_
 rw[zcu]
 simp only[zfQ,z9 (Nat.le_refl _),cnF,zi i (show i<4611686018427387904 by omega),Tree.run,Option.bind_some]
 rw[show(⟨(pAt c i:Int),((pAt c i+2:Nat):Int),((pAt c i+19:Nat):Int),(tF c i:Int),zht (tF c i) (zbr (P c i))⟩:zj)=full c i from rfl,zDz hi,tF,show tF c i+1+zbr (P c i)=tF c i+(1+zbr (P c i))by omega]
theorem zrO:zcZ c=some (lay c,0):=by
 have k1':zsW c=some true:=zLL g hk
 have hca:=zjJ g hk (Nat.le_refl (nC c))
 have e0:i64.wrap (c.kernel*16)=((16*kF0 c:Nat):Int):=zz _ _ (by unfold kF0;omega) (by unfold kF0;omega)
 have e1:i64.wrap (((16*kF0 c:Nat):Int)+2)=((pAt c 0:Nat):Int):=zz _ _ (by unfold pAt;omega) (by unfold pAt kF0;omega)
 have e2:i64.wrap ((cAt c (nC c):Int)+16)=((cAt c (nC c)+16:Nat):Int):=zz _ _ (by omega) (by omega)
 have e3:i64.wrap (((cAt c (nC c)+16:Nat):Int)-1)=((cAt c (nC c)+15:Nat):Int):=zz _ _ (by omega) (by omega)
 unfold zcZ zEr
 dsimp only [Tree.run0,Tree.run]
 rw[k1',Option.bind_some,Bool.not_true,cnF,zqV,zgj,e0,e1]
 refine Eq.trans (zFO g hk) ?_
 refine Eq.trans (zK (n:=nC c) (f:=fun k (_:Unit)=>zcJ c (.l4 (k:Int) (cAt c k:Int) (plA c (nP c)) (chL c k))) (S:=fun _=>()) fun k hkk=>zCq g hk hkk) ?_
 rw[zcu]
 have hf:decide ((nC c:Int)<(c.channels.length:Int))=false:=z9 (Nat.le_refl _)
 simp only[zfQ,hf,cnF,zgj,zqV,e2,e3,zcg _ (show cAt c (nC c)+15<4611686018427387904 by omega),Tree.run,Option.bind_some]
 have ep:plA c (nP c)=plT c 0:=by
  unfold plA plT
  apply List.map_congr_left
  intro q _
  rw[if_neg (by omega)]
 rw[ep]
 refine Eq.trans (zK (n:=nP c) (f:=fun i (_:Unit)=>zcJ c (.l12 (i:Int) (plT c i) (chL c (nC c)) (tF c i:Int))) (S:=fun _=>()) fun i hi=>zyi g hk hi) ?_
 rw[zcu]
 have hf:decide ((nP c:Int)<(c.partitions.length:Int))=false:=z9 (Nat.le_refl _)
 simp only[zfQ,hf,cnF,zgj,zqV,e0,id,Tree.run,Option.bind_some]
 rfl
end
def Laid:Nat->List Pc->Nat->Prop
 | a,[],b=>a<=b
 | a,x :: l,b=>a<=x.1/\Laid (x.1+x.2.1) l b
theorem Laid.mono{a a':Nat}{l:List Pc}{b:Nat}(h:Laid a l b)(ha:a'<=a):Laid a' l b:=by
 cases l with
 | nil=>exact Nat.le_trans ha h
 | cons x l=>exact⟨Nat.le_trans ha h.1,h.2⟩
theorem Laid.append : ∀ {l l':List Pc} {a m b:Nat},Laid a l m->Laid m l' b->Laid a (l++l') b
 | [],_,_,_,_,h,h'=>h'.mono h
 | _ :: _,_,_,_,_,h,h'=>⟨h.1,Laid.append h.2 h'⟩
theorem Laid.in_ : ∀ {l:List Pc} {a b:Nat},Laid a l b->∀ x ∈ l,a<=x.1/\x.1+x.2.1<=b
 | [],_,_,_,_,hx=>by cases hx
 | y :: l,a,b,h,x,hx=>by
  have hb : ∀ {l:List Pc} {a b:Nat},Laid a l b->a<=b:=by
   intro l
   induction l with
   | nil=>intro a b h;exact h
   | cons y l ih=>intro a b h;have:=ih h.2;have:=h.1;omega
  rcases List.mem_cons.1 hx with rfl | hx
  . exact⟨h.1,hb h.2⟩
  . obtain ⟨h1,h2⟩:=Laid.in_ h.2 x hx
    have:=h.1
    exact⟨by omega,h2⟩
def inP(x:Pc)(a:Nat):Bool:=decide (x.1<=a)&&decide (a<x.1+x.2.1)
theorem inP_iff{x:Pc}{a:Nat}:inP x a=true ↔ x.1<=a/\a<x.1+x.2.1:=by simp[inP]
theorem Laid.one : ∀ {l:List Pc} {a b:Nat},Laid a l b->∀ {x y:Pc} {n:Nat},x ∈ l->y ∈ l->inP x n=true->inP y n=true->x=y
 | [],_,_,_,_,_,_,hx,_,_,_=>by cases hx
 | z :: l,a,b,h,x,y,n,hx,hy,h1,h2=>by
  have i1:=inP_iff.1 h1
  have i2:=inP_iff.1 h2
  rcases List.mem_cons.1 hx with rfl | hx'
  . rcases List.mem_cons.1 hy with rfl | hy'
    . rfl
    . have:=(h.2.in_ y hy').1;omega
  . rcases List.mem_cons.1 hy with rfl | hy'
    . have:=(h.2.in_ x hx').1;omega
    . exact Laid.one h.2 hx' hy' h1 h2
theorem zmc(s:Nat) : ∀ (l:List LayoutEnd) (a:Nat),Laid a (za1 s a l) (a+l.length*s)
 | [],a=>by simp[za1,Laid]
 | e :: l,a=>by
  refine⟨Nat.le_refl _,?_⟩
  have:=zmc s l (a+s)
  rw[List.length_cons,Nat.add_mul,Nat.one_mul,show a+(l.length*s+s)=a+s+l.length*s by omega]
  exact this
theorem zmb(c:za) : ∀ n,Laid (pAt c 0) (zb7 c n) (pAt c n)
 | 0=>Nat.le_refl _
 | n+1=>by
  rw[zb7]
  refine(zmb c n).append ?_
  simp only[zfV,Laid,pAt]
  omega
theorem zma(c:za) : ∀ n,Laid (cAt c 0) (zc7 c n) (cAt c n)
 | 0=>Nat.le_refl _
 | n+1=>by
  rw[zc7]
  refine((zma c n).append (m:=cAt c n) (b:=dAt c n) ?_).append ?_
  . exact⟨Nat.le_refl _,Nat.le_refl _,Nat.le_refl _⟩
  . exact zmc _ _ _
theorem zrN(f i:Nat) : ∀ n,Laid (16*f) (rep f i n) (16*(f+n))
 | 0=>Nat.le_refl _
 | n+1=>by
  rw[rep]
  refine(zrN f i n).append ?_
  simp only[Laid]
  omega
theorem zow(c:za) : ∀ n,Laid (16*tF c 0) (zez c n) (16*tF c n)
 | 0=>Nat.le_refl _
 | n+1=>by
  rw[zez,tF]
  exact(zow c n).append (zrN _ _ _)
theorem zmd(c:za):Laid (16*kF0 c) (zaG c) (16*tF c (nP c)):=by
 refine(((Laid.append (m:=pAt c 0) ?_ (zmb c _)).append (zma c _)).append ((zow c _).mono ?_))
 . exact⟨Nat.le_refl _,Nat.le_refl _⟩
 . show cAt c (nC c)<=16*((cAt c (nC c)+15) / 16)
   omega
inductive Is(c:za):Pc->Prop
 | bar:Is c (16*kF0 c,2,⟨2,0,0⟩)
 | lock {i:Nat} (h:i<nP c):Is c (pAt c i,2,⟨3,(i:Int),0⟩)
 | save {i:Nat} (h:i<nP c):Is c (pAt c i+2,17,⟨4,(i:Int),0⟩)
 | state {i:Nat} (h:i<nP c):Is c (pAt c i+19,5,⟨5,(i:Int),0⟩)
 | chan {k:Nat} (h:k<nC c):Is c (cAt c k,2,⟨6,(k:Int),0⟩)
 | stage {k:Nat} (h:k<nC c):Is c (cAt c k+2,stg (Ch c k),⟨7,(k:Int),0⟩)
 | port {k:Nat} (h:k<nC c) {x:Pc} (hx:x ∈ za1 (prt (Ch c k)) (dAt c k) (dl c k)):Is c x
 | tab {i:Nat} (h:i<nP c) {x:Pc} (hx:x ∈ rep (tF c i) i (1+zbr (P c i))):Is c x
theorem zoI(c:za){x:Pc} : ∀ n,x ∈ zb7 c n ↔ ∃ i,i<n/\x ∈ zfV c i
 | 0=>by simp[zb7]
 | n+1=>by
  rw[zb7,List.mem_append,zoI c n]
  constructor
  . rintro (⟨i,hi,h⟩ | h)
    . exact⟨i,by omega,h⟩
    . exact⟨n,by omega,h⟩
  . rintro ⟨i,hi,h⟩
    by_cases hin:i=n
    . subst hin;exact .inr h
    . exact .inl ⟨i,by omega,h⟩
theorem zjL(c:za){x:Pc} : ∀ n,x ∈ zc7 c n ↔ ∃ k,k<n/\(x ∈ zfS c k ∨ x ∈ za1 (prt (Ch c k)) (dAt c k) (dl c k))
 | 0=>by simp[zc7]
 | n+1=>by
  rw[zc7,List.mem_append,List.mem_append,zjL c n]
  constructor
  . rintro ((⟨i,hi,h⟩ | h) | h)
    . exact⟨i,by omega,h⟩
    . exact⟨n,by omega,.inl h⟩
    . exact⟨n,by omega,.inr h⟩
  . rintro ⟨i,hi,h⟩
    by_cases hin:i=n
    . subst hin
      rcases h with h | h
      . exact .inl (.inr h)
      . exact .inr h
    . exact .inl (.inl ⟨i,by omega,h⟩)
theorem zs4(c:za){x:Pc} : ∀ n,x ∈ zez c n ↔ ∃ i,i<n/\x ∈ rep (tF c i) i (1+zbr (P c i))
 | 0=>by simp[zez]
 | n+1=>by
  rw[zez,List.mem_append,zs4 c n]
  constructor
  . rintro (⟨i,hi,h⟩ | h)
    . exact⟨i,by omega,h⟩
    . exact⟨n,by omega,h⟩
  . rintro ⟨i,hi,h⟩
    by_cases hin:i=n
    . subst hin;exact .inr h
    . exact .inl ⟨i,by omega,h⟩
theorem ref_mem{c:za}{x:Pc}:x ∈ zaG c ↔ Is c x:=by
 unfold zaG
 rw[List.mem_append,List.mem_append,List.mem_append,zoI,zjL,zs4]
 constructor
 . rintro (((h | ⟨i,hi,h⟩) | ⟨k,hk,h | h⟩) | ⟨i,hi,h⟩)
   . rw[bar,List.mem_singleton]at h;subst h;exact .bar
   . simp only[zfV,List.mem_cons,List.not_mem_nil,or_false]at h
     rcases h with rfl | rfl | rfl
     . exact .lock hi
     . exact .save hi
     . exact .state hi
   . simp only[zfS,List.mem_cons,List.not_mem_nil,or_false]at h
     rcases h with rfl | rfl
     . exact .chan hk
     . exact .stage hk
   . exact .port hk h
   . exact .tab hi h
 . intro h
   cases h with
   | bar=>exact .inl (.inl (.inl (by simp[bar])))
   | lock h=>exact .inl (.inl (.inr ⟨_,h,by simp[zfV]⟩))
   | save h=>exact .inl (.inl (.inr ⟨_,h,by simp[zfV]⟩))
   | state h=>exact .inl (.inl (.inr ⟨_,h,by simp[zfV]⟩))
   | chan h=>exact .inl (.inr ⟨_,h,.inl (by simp[zfS])⟩)
   | stage h=>exact .inl (.inr ⟨_,h,.inl (by simp[zfS])⟩)
   | port h hx=>exact .inl (.inr ⟨_,h,.inr hx⟩)
   | tab h hx=>exact .inr ⟨_,h,hx⟩
theorem rep_mem{f i:Nat}{x:Pc} : ∀ {n},x ∈ rep f i n ↔ ∃ j,j<n/\x=(16*(f+j),16,⟨9,(i:Int),0⟩)
 | 0=>by simp[rep]
 | n+1=>by
  rw[rep,List.mem_append,rep_mem,List.mem_singleton]
  constructor
  . rintro (⟨j,hj,h⟩ | h)
    . exact⟨j,by omega,h⟩
    . exact⟨n,by omega,h⟩
  . rintro ⟨j,hj,h⟩
    by_cases hjn:j=n
    . subst hjn;exact .inr h
    . exact .inl ⟨j,by omega,h⟩
theorem zj4{s:Nat}{x:Pc} : ∀ {l:List LayoutEnd} {a:Nat},x ∈ za1 s a l->x.2.1=s/\∃ e ∈ l,x.2.2=⟨8,e.partition,e.port⟩
 | [],a,h=>by cases h
 | e :: l,a,h=>by
  rw[za1]at h
  rcases List.mem_cons.1 h with rfl | h
  . exact⟨rfl,e,by simp,rfl⟩
  . obtain ⟨h1,e',he,h2⟩:=zj4 h
    exact⟨h1,e',by simp[he],h2⟩
def PcOk(c:za)(x:Pc):Prop:=x.2.2.kind=2 ∨ ((x.2.2.kind=3 ∨ x.2.2.kind=4 ∨ x.2.2.kind=5 ∨ x.2.2.kind=9)/\∃ j,j<nP c/\x.2.2.index=((j:Nat):Int)) ∨ ((x.2.2.kind=6 ∨ x.2.2.kind=7)/\∃ j,j<nC c/\x.2.2.index=((j:Nat):Int)) ∨ (x.2.2.kind=8/\1<=nC c)
theorem zE0{c:za}{x:Pc}(h:Is c x):PcOk c x:=by
 cases h with
 | bar=>exact .inl rfl
 | lock h=>exact .inr (.inl ⟨.inl rfl,_,h,rfl⟩)
 | save h=>exact .inr (.inl ⟨.inr (.inl rfl),_,h,rfl⟩)
 | state h=>exact .inr (.inl ⟨.inr (.inr (.inl rfl)),_,h,rfl⟩)
 | chan h=>exact .inr (.inr (.inl ⟨.inl rfl,_,h,rfl⟩))
 | stage h=>exact .inr (.inr (.inl ⟨.inr rfl,_,h,rfl⟩))
 | port h hx=>
  obtain ⟨_,e,_,h2⟩:=zj4 hx
  exact .inr (.inr (.inr ⟨by rw[h2],by omega⟩))
 | tab h hx=>
  obtain ⟨j,hj,rfl⟩:=rep_mem.1 hx
  exact .inr (.inl ⟨.inr (.inr (.inr rfl)),_,h,rfl⟩)
structure Inv(c:za)(i:Nat)(x0:Int)(x4:List zj)(x5:List zE):Prop where
 ch:0<=x0/\(1<=nC c->x0<nC c)
 l4:x4.length=nP c
 l5:x5.length=nC c
 t : ∀ p ∈ x4,p.tables.length<=i
 d : ∀ p ∈ x5,p.dests.length<=i
theorem Inv.up{c:za}{i:Nat}{x0:Int}{x4:List zj}{x5:List zE}(h:Inv c i x0 x4 x5):Inv c (i+1) x0 x4 x5:=
 ⟨h.ch,h.l4,h.l5,fun p hp=>Nat.le_succ_of_le (h.t p hp),fun p hp=>Nat.le_succ_of_le (h.d p hp)⟩
theorem Inv.set4{c:za}{i:Nat}{x0:Int}{x4:List zj}{x5:List zE}(h:Inv c i x0 x4 x5){j:Nat}{y:zj}(hy:y.tables.length<=i+1):Inv c (i+1) x0 (List.set x4 j y) x5:=
 ⟨h.ch,by rw[List.length_set,h.l4],h.l5,fun p hp=>by
  rcases List.mem_or_eq_of_mem_set hp with hp | rfl
  . exact Nat.le_succ_of_le (h.t p hp)
  . exact hy,fun p hp=>Nat.le_succ_of_le (h.d p hp)⟩
theorem Inv.set5{c:za}{i:Nat}{x0:Int}{x4:List zj}{x5:List zE}(h:Inv c i x0 x4 x5){j:Nat}{y:zE}(hy:y.dests.length<=i+1):Inv c (i+1) x0 x4 (List.set x5 j y):=
 ⟨h.ch,h.l4,by rw[List.length_set,h.l5],fun p hp=>Nat.le_succ_of_le (h.t p hp),fun p hp=>by
  rcases List.mem_or_eq_of_mem_set hp with hp | rfl
  . exact Nat.le_succ_of_le (h.d p hp)
  . exact hy⟩
theorem Inv.setc{c:za}{i:Nat}{x0 y:Int}{x4:List zj}{x5:List zE}(h:Inv c i x0 x4 x5)(hy:0<=y/\(1<=nC c->y<nC c)):Inv c i y x4 x5:=⟨hy,h.l4,h.l5,h.t,h.d⟩
theorem zy5{xs:List zj}{i:Nat}(h:i<xs.length):zm xs i ∈ xs:=by
 simp[zm,List.getD,h]
theorem zlO{xs:List zE}{i:Nat}(h:i<xs.length):zG xs i ∈ xs:=by
 simp[zG,List.getD,h]
theorem zrg{xs:List Pc}{i:Nat}(h:i<xs.length):zby (xs.map mkR) i=mkR xs[i]:=by
 simp[zby,List.getD,h]
theorem zbA{x:Int}{n:Nat}(h0:0<=x)(h1:x<n):zN x n=true:=by
 obtain ⟨m,rfl⟩:=Int.eq_ofNat_of_zero_le h0
 exact zn (by omega)
noncomputable def zdP(xs:List zj)(x:Pc):List zj:=
 let j:=x.2.2.index.toNat
 let y:=zm xs j
 if x.2.2.kind=3 then List.set xs j ⟨(x.1:Int),y.save,y.state,y.root,y.tables⟩
 else if x.2.2.kind=4 then List.set xs j ⟨y.lock,(x.1:Int),y.state,y.root,y.tables⟩
 else if x.2.2.kind=5 then List.set xs j ⟨y.lock,y.save,(x.1:Int),y.root,y.tables⟩
 else if x.2.2.kind=9 then(if y.root=0 then List.set xs j ⟨y.lock,y.save,y.state,((x.1 / 16:Nat):Int),y.tables⟩else List.set xs j ⟨y.lock,y.save,y.state,y.root,y.tables++[((x.1 / 16:Nat):Int)]⟩)
 else xs
noncomputable def FL(c:za)(f:Nat->zj):List zj:=(List.range (nP c)).map f
noncomputable def zlr(y:zj)(x:Pc):zj:=
 if x.2.2.kind=3 then⟨(x.1:Int),y.save,y.state,y.root,y.tables⟩
 else if x.2.2.kind=4 then⟨y.lock,(x.1:Int),y.state,y.root,y.tables⟩
 else if x.2.2.kind=5 then⟨y.lock,y.save,(x.1:Int),y.root,y.tables⟩
 else if x.2.2.kind=9 then(if y.root=0 then⟨y.lock,y.save,y.state,((x.1 / 16:Nat):Int),y.tables⟩else⟨y.lock,y.save,y.state,y.root,y.tables++[((x.1 / 16:Nat):Int)]⟩)
 else y
noncomputable def zck(q:Nat)(y:zj)(x:Pc):zj:=if x.2.2.index=(q:Int)then zlr y x else y
theorem zKy{c:za}{f:Nat->zj}{j:Nat}(h:j<nP c):zm (FL c f) j=f j:=by
 simp[zm,List.getD,FL,h]
theorem zFN{c:za}{f:Nat->zj}{j:Nat}{y:zj}(h:j<nP c):List.set (FL c f) j y=FL c (fun q=>if q=j then y else f q):=by
 apply List.ext_getElem
 . simp[FL]
 . intro i h1 h2
   simp only[FL,List.getElem_set,List.getElem_map,List.getElem_range]
   by_cases hij:j=i
   . subst hij;simp
   . rw[if_neg hij,if_neg (fun e=>hij e.symm)]
theorem zpy{c:za}{f g:Nat->zj}(h : ∀ q,q<nP c->f q=g q):FL c f=FL c g:=by
 unfold FL
 apply List.map_congr_left
 intro q hq
 exact h q (by simpa using hq)
theorem zJu{c:za}{f:Nat->zj}{x:Pc}(hx:Is c x):zdP (FL c f) x=FL c (fun q=>zck q (f q) x):=by
 have other:x.2.2.kind ≠ 3->x.2.2.kind ≠ 4->x.2.2.kind ≠ 5->x.2.2.kind ≠ 9->zdP (FL c f) x=FL c (fun q=>zck q (f q) x):=fun h3 h4 h5 h9=>by
  unfold zdP
  simp only[if_neg h3,if_neg h4,if_neg h5,if_neg h9]
  refine zpy fun q _=>?_
  unfold zck zlr
  simp only[if_neg h3,if_neg h4,if_neg h5,if_neg h9]
  split <;> rfl
 rcases zE0 hx with k | ⟨k,j,hj,ij⟩ | ⟨k,_⟩ | ⟨k,_⟩
 . exact other (by omega) (by omega) (by omega) (by omega)
 . have hst : ∀ y:zj,y=zlr (f j) x->List.set (FL c f) j y=FL c (fun q=>zck q (f q) x):=fun y hy=>by
    rw[zFN hj,hy]
    refine zpy fun q _=>?_
    unfold zck
    rw[ij]
    by_cases hq:q=j
    . subst hq;rw[if_pos rfl,if_pos rfl]
    . rw[if_neg hq,if_neg (fun e=>hq (by omega))]
   unfold zdP
   simp only[ij,tnC,zKy hj]
   rcases k with k | k | k | k
   . rw[k];exact hst _ (by unfold zlr;rw[k];rfl)
   . rw[k];exact hst _ (by unfold zlr;rw[k];rfl)
   . rw[k];exact hst _ (by unfold zlr;rw[k];rfl)
   . rw[k]
     show(if(f j).root=0 then _ else _)=_
     split
     . rename_i hr;exact hst _ (by unfold zlr;rw[k];show _=(if(f j).root=0 then _ else _);rw[if_pos hr])
     . rename_i hr;exact hst _ (by unfold zlr;rw[k];show _=(if(f j).root=0 then _ else _);rw[if_neg hr])
 . exact other (by omega) (by omega) (by omega) (by omega)
 . exact other (by omega) (by omega) (by omega) (by omega)
theorem zu2{c:za} : ∀ (l:List Pc),(∀ x ∈ l,Is c x)->∀ f:Nat->zj,l.foldl zdP (FL c f)=FL c (fun q=>l.foldl (zck q) (f q))
 | [],_,f=>rfl
 | x :: l,h,f=>by
  rw[List.foldl_cons,zJu (h x (List.mem_cons_self ..)),zu2 l (fun x hx=>h x (List.mem_cons_of_mem _ hx))]
  rfl
def zlg:zj:=⟨0,0,0,0,[]⟩
theorem zhk{q:Nat}{l:List Pc}:(∀ x ∈ l,∀ y,zck q y x=y)->∀ y,l.foldl (zck q) y=y:=by
 induction l with
 | nil=>intro _ y;rfl
 | cons x l ih=>intro h y;rw[List.foldl_cons,h x (List.mem_cons_self ..),ih (fun x hx=>h x (List.mem_cons_of_mem _ hx))]
theorem zpq{q:Nat}{x:Pc}(h:x.2.2.kind=2 ∨ x.2.2.kind=6 ∨ x.2.2.kind=7 ∨ x.2.2.kind=8)(y:zj):zck q y x=y:=by
 unfold zck zlr
 rw[if_neg (show ¬ x.2.2.kind=3 by omega),if_neg (show ¬ x.2.2.kind=4 by omega),if_neg (show ¬ x.2.2.kind=5 by omega),if_neg (show ¬ x.2.2.kind=9 by omega)]
 split <;> rfl
theorem znA{q:Nat}{x:Pc}{j:Nat}(h:x.2.2.index=(j:Int))(hj:j ≠ q)(y:zj):zck q y x=y:=by
 unfold zck
 rw[if_neg (by omega)]
theorem zl2(c:za)(q:Nat) : ∀ n,(zb7 c n).foldl (zck q) zlg=if q<n then base c q else zlg
 | 0=>rfl
 | n + 1=>by
  rw[zb7,List.foldl_append,zl2 c q n]
  by_cases hq:q=n
  . subst hq
    rw[if_neg (Nat.lt_irrefl _),if_pos (Nat.lt_succ_self _)]
    simp only[zfV,List.foldl_cons,List.foldl_nil,zck,if_true,zlr,base,zlg]
    rfl
  . have e : ∀ y,(zfV c n).foldl (zck q) y=y:=zhk fun x hx y=>by
     simp only[zfV,List.mem_cons,List.not_mem_nil,or_false]at hx
     rcases hx with rfl | rfl | rfl <;> exact znA (j:=n) rfl (fun e=>hq e.symm) y
    rw[e]
    by_cases h:q<n
    . rw[if_pos h,if_pos (by omega)]
    . rw[if_neg h,if_neg (by omega)]
theorem ztN(c:za)(q:Nat)(y:zj)(n:Nat):(zc7 c n).foldl (zck q) y=y:=by
 refine zhk (fun x hx y=>zpq ?_ y) y
 obtain ⟨k,_,h | h⟩:=(zjL c n).1 hx
 . simp only[zfS,List.mem_cons,List.not_mem_nil,or_false]at h
   rcases h with rfl | rfl
   . exact .inr (.inl rfl)
   . exact .inr (.inr (.inl rfl))
 . obtain ⟨_,e,_,h2⟩:=zj4 h
   exact .inr (.inr (.inr (by rw[h2])))
theorem zrC(c:za)(q:Nat)(f:Nat)(hf:1<=f) : ∀ m,(rep f q (m+1)).foldl (zck q) (base c q)=⟨(base c q).lock,(base c q).save,(base c q).state,(f:Int),zht f m⟩
 | 0=>by
  have e:(16*(f+0)) / 16=f:=by omega
  simp only[rep,List.nil_append,List.foldl_cons,List.foldl_nil,zck,if_true,zlr,base]
  rw[e]
  rfl
 | m+1=>by
  have e:(16*(f+(m+1))) / 16=f+1+m:=by omega
  rw[rep,List.foldl_append,zrC c q f hf m]
  simp only[List.foldl_cons,List.foldl_nil,zck,if_true,zlr]
  rw[show zht f (m+1)=zht f m++[((f+1+m:Nat):Int)]from zbq _ _,e]
  have h0 : ¬ ((f:Nat):Int)=0:=by omega
  rw[if_neg h0]
  rfl
theorem zBX(c:za) : ∀ i,1<=tF c i
 | 0=>by
  rw[tF]
  have h : ∀ n,2<=cAt c n:=by
   intro n
   induction n with
   | zero=>rw[cAt,pAt];omega
   | succ n ih=>rw[cAt];omega
  have:=h (nC c)
  omega
 | i+1=>by rw[tF];have:=zBX c i;omega
theorem zor(c:za)(q:Nat) : ∀ n,(zez c n).foldl (zck q) (base c q)=if q<n then full c q else base c q
 | 0=>rfl
 | n + 1=>by
  rw[zez,List.foldl_append,zor c q n]
  by_cases hq:q=n
  . subst hq
    rw[if_neg (Nat.lt_irrefl _),if_pos (Nat.lt_succ_self _),show 1+zbr (P c q)=zbr (P c q)+1 by omega,zrC c q _ (zBX c q)]
    rfl
  . have e : ∀ y,(rep (tF c n) n (1+zbr (P c n))).foldl (zck q) y=y:=zhk fun x hx y=>by
     obtain ⟨j,_,rfl⟩:=rep_mem.1 hx
     exact znA (j:=n) rfl (fun e=>hq e.symm) y
    rw[e]
    by_cases h:q<n
    . rw[if_pos h,if_pos (by omega)]
    . rw[if_neg h,if_neg (by omega)]
theorem zAd(c:za):(zaG c).foldl zdP (List.replicate (nP c) zlg)=plT c (nP c):=by
 have e0:List.replicate (nP c) zlg=FL c fun _=>zlg:=by
  unfold FL;rw[List.map_const',List.length_range]
 rw[e0,zu2 _ (fun x hx=>ref_mem.1 hx)]
 refine zpy fun q hq=>?_
 unfold zaG
 rw[List.foldl_append,List.foldl_append,List.foldl_append]
 have hb:(bar c).foldl (zck q) zlg=zlg:=zhk (fun x hx y=>zpq (by rw[bar,List.mem_singleton]at hx;subst hx;exact .inl rfl) y) _
 rw[hb,zl2,if_pos hq,ztN,zor,if_pos hq]
section
variable {c:za} (g:zaA c) (hk:0<=c.kernel/\c.kernel<1024)
include g hk
theorem zvs{x:Pc}(hx:x ∈ zaG c):x.1+x.2.1<=48000:=by
 have h1:=((zmd c).in_ x hx).2
 have h2:=zpr g hk (Nat.le_refl (nP c))
 omega
theorem zvk {i:Nat} (hi:i<(zaG c).length) {x0 x1 x3:Int} {x4:List zj} {x5:List zE} (h:Inv c i x0 x4 x5) (hi4:i<=4000) : ∃ x0' x3' x5',Inv c (i+1) x0' (zdP x4 (zaG c)[i]) x5'/\zjb c (.l4 ((zaG c).map mkR) x0 x1 (i:Int) x3 x4 x5)=zjb c (.l4 ((zaG c).map mkR) x0' (((zaG c)[i].1+(zaG c)[i].2.1:Nat):Int) ((i+1:Nat):Int) x3' (zdP x4 (zaG c)[i]) x5'):=by
 have p1':zjo c=some ((zaG c).map mkR):=(ziW g hk)
 have hm:(zaG c)[i] ∈ zaG c:=List.getElem_mem hi
 have he:=zvs g hk hm
 have e81 : ∀ (a b d:Int) x y,zjb c (.l81 ((zaG c).map mkR) a b (i:Int) d x y)=zjb c (.l4 ((zaG c).map mkR) a b ((i+1:Nat):Int) d x y):=fun a b d x y=>by
  rw[zgD]
  simp only[zlS,zi i (show i<4611686018427387904 by omega),Tree.run,Option.bind_some]
 have hl:i<((zaG c).map mkR).length:=by rw[List.length_map];exact hi
 have ew:i64.wrap ((mkR (zaG c)[i]).at_+(mkR (zaG c)[i]).size)=(((zaG c)[i].1+(zaG c)[i].2.1:Nat):Int):=zz _ _ (by simp only[mkR];omega) (by omega)
 have hr : ∀ {x:Int} {n:Nat},0<=x->x<n->zN x n=true:=zbA
 have hok:=zE0 (ref_mem.1 hm)
 have eq16:bop .quo .i64 (((zaG c)[i].1:Nat):Int) 16=(((zaG c)[i].1 / 16:Nat):Int):=zcg _ (by omega)
 rw[zgD]
 simp only[zlS,p1',tnC,zY hl,zn hl,cnT,zrg hi,ew,e81,Nat.beq_refl,Tree.run,Option.bind_some]
 have ho:(mkR (zaG c)[i]).owner=(zaG c)[i].2.2:=rfl
 have ha:(mkR (zaG c)[i]).at_=(((zaG c)[i].1:Nat):Int):=rfl
 rw[ho,ha,eq16]
 have h4:=h.l4
 have h5:=h.l5
 generalize (zaG c)[i]=x at *
 rcases hok with k | ⟨k,j,hj,ij⟩ | ⟨k,j,hj,ij⟩ | ⟨k,hc⟩
 . have e:zdP x4 x=x4:=by unfold zdP;rw[k];rfl
   rw[e,k];refine⟨_,_,_,?_,rfl⟩;exact h.up
 . have hj4:j<x4.length:=by omega
   have hmem:=h.t _ (zy5 hj4)
   rw[ij]
   simp only[zn hj4,tnC,cnT]
   rcases k with k | k | k | k
   . have e:zdP x4 x=List.set x4 j ⟨(x.1:Int),(zm x4 j).save,(zm x4 j).state,(zm x4 j).root,(zm x4 j).tables⟩:=by unfold zdP;rw[k,ij];rfl
     rw[e,k];refine⟨_,_,_,?_,rfl⟩;exact h.set4 (Nat.le_succ_of_le hmem)
   . have e:zdP x4 x=List.set x4 j ⟨(zm x4 j).lock,(x.1:Int),(zm x4 j).state,(zm x4 j).root,(zm x4 j).tables⟩:=by unfold zdP;rw[k,ij];rfl
     rw[e,k];refine⟨_,_,_,?_,rfl⟩;exact h.set4 (Nat.le_succ_of_le hmem)
   . have e:zdP x4 x=List.set x4 j ⟨(zm x4 j).lock,(zm x4 j).save,(x.1:Int),(zm x4 j).root,(zm x4 j).tables⟩:=by unfold zdP;rw[k,ij];rfl
     rw[e,k];refine⟨_,_,_,?_,rfl⟩;exact h.set4 (Nat.le_succ_of_le hmem)
   . have b1 : ∀ y:Int,leB (((zm x4 j).tables.length + [y].length)*8) 140737488355328=true:=zeG (by omega) (by omega)
     simp only[b1,cnT]
     by_cases hroot:(zm x4 j).root=0
     . have e:zdP x4 x=List.set x4 j ⟨(zm x4 j).lock,(zm x4 j).save,(zm x4 j).state,((x.1 / 16:Nat):Int),(zm x4 j).tables⟩:=by
        unfold zdP;rw[k,ij]
        show(if(zm x4 j).root=0 then _ else _)=_
        rw[if_pos hroot];rfl
       have hb:((zm x4 j).root==0)=true:=by rw[hroot];rfl
       rw[e,k,hb];refine⟨_,_,_,?_,rfl⟩;exact h.set4 (Nat.le_succ_of_le hmem)
     . have e:zdP x4 x=List.set x4 j ⟨(zm x4 j).lock,(zm x4 j).save,(zm x4 j).state,(zm x4 j).root,(zm x4 j).tables++[((x.1 / 16:Nat):Int)]⟩:=by
        unfold zdP;rw[k,ij]
        show(if(zm x4 j).root=0 then _ else _)=_
        rw[if_neg hroot];rfl
       have hb:((zm x4 j).root==0)=false:=beq_eq_false_iff_ne.2 hroot
       rw[e,k,hb];refine⟨_,_,_,?_,rfl⟩;exact h.set4 (by rw[List.length_append];exact Nat.succ_le_succ hmem)
 . have hj5:j<x5.length:=by omega
   have hmem:=h.d _ (zlO hj5)
   have e:zdP x4 x=x4:=by unfold zdP;rcases k with k | k <;> rw[k] <;> rfl
   rw[e,ij]
   simp only[zn hj5,tnC,cnT]
   rcases k with k | k
   . rw[k];refine⟨_,_,_,?_,rfl⟩;exact Inv.setc (x0:=x0) (h.set5 (Nat.le_succ_of_le hmem)) ⟨Int.natCast_nonneg _,fun _=>Int.ofNat_lt.2 hj⟩
   . rw[k];refine⟨_,_,_,?_,rfl⟩;exact h.set5 (Nat.le_succ_of_le hmem)
 . obtain ⟨c1,c2⟩:=h.ch
   have c2:=c2 hc
   have hmem:=h.d _ (zlO (xs:=x5) (i:=x0.toNat) (by omega))
   have b1 : ∀ y:zaW,leB (((zG x5 x0.toNat).dests.length + [y].length)*24) 140737488355328=true:=zeG (by omega) (by omega)
   have e:zdP x4 x=x4:=by unfold zdP;rw[k];rfl
   rw[e,k]
   simp only[hr c1 (show x0<(x5.length:Nat)by omega),b1,cnT]
   refine⟨_,_,_,?_,rfl⟩;exact h.set5 (by rw[List.length_append];exact Nat.succ_le_succ hmem)
end
theorem zBz{c:za}(g:zaA c)(h:Int) : ∃ r,zBJ c h=some r:=by
 have hP:=g.few.parts
 have outer : ∀ m q,q+m=nP c->∃ r,zsF c h (.l0 (q:Int))=some r:=by
  intro m
  induction m with
  | zero=>
   intro q hq
   have hf:decide ((q:Int)<(c.partitions.length:Int))=false:=z9 (by unfold nP at hq;omega)
   exact⟨_,by rw[zjh];simp only[zob,hf,cnF,Tree.run,Option.bind_some];rfl⟩
  | succ m ih=>
   intro q hq
   have hq':q<c.partitions.length:=by unfold nP at hq;omega
   have hn:=g.few.ports q hq'
   obtain ⟨r,hr⟩:=ih (q+1) (by omega)
   have inner : ∀ m i,i+m=zae c q->∃ r,zsF c h (.l4 (q:Int) (q:Int) (zae c q) (i:Int))=some r:=by
    intro m
    induction m with
    | zero=>
     intro i hi
     have hf:decide ((i:Int)<(zae c q:Int))=false:=z9 (by omega)
     exact⟨r,by rw[zjh];simp only[zob,hf,cnF,zi q (show q<4611686018427387904 by omega),Tree.run,Option.bind_some];exact hr⟩
    | succ m ih'=>
     intro i hi
     have hi':i<(zb c.partitions q).ports.length:=by have:zae c q=(zb c.partitions q).ports.length:=rfl;omega
     obtain ⟨r',hr'⟩:=ih' (i+1) (by omega)
     have ht:decide ((i:Int)<(zae c q:Int))=true:=zY (by omega)
     rw[zjh]
     simp only[zob,tnC,ht,zn hi',zn hq',cnT,zi i (show i<4611686018427387904 by omega),hr',Tree.run,Option.bind_some]
     cases (zbc (zb c.partitions q).ports i).channel==h <;> cases (zbc (zb c.partitions q).ports i).source <;> exact⟨_,rfl⟩
   obtain ⟨r',hr'⟩:=inner _ 0 (Nat.zero_add _)
   refine⟨r',?_⟩
   rw[zjh]
   simp only[zob,tnC,zY hq',zn hq',cnT,Tree.run,Option.bind_some]
   exact hr'
 exact outer _ 0 (Nat.zero_add _)
section
variable {c:za} (g:zaA c) (hk:0<=c.kernel/\c.kernel<1024)
include g hk
theorem zvt:(zaG c).length<=400:=zBi g (Nat.le_refl _)
theorem zsc : ∃ l x,zaG c=l++[x]/\x.1+x.2.1=16*tF c (nP c):=by
 obtain ⟨n,hn⟩ : ∃ n,nP c=n+1:=⟨nP c-1,by have:=g.least;unfold nP;omega⟩
 unfold zaG
 rw[hn,zez,show 1+zbr (P c n)=zbr (P c n)+1 by omega,rep]
 exact⟨_,_,by rw[← List.append_assoc,← List.append_assoc],by rw[tF];simp only;omega⟩
theorem zGI:bop .quo .i64 (i64.wrap (i64.wrap (((16*tF c (nP c):Nat):Int)+16)-1)) 16=(tF c (nP c):Int):=by
 have ht:=zpr g hk (Nat.le_refl (nP c))
 have e1:i64.wrap (((16*tF c (nP c):Nat):Int)+16)=((16*tF c (nP c)+16:Nat):Int):=zz _ _ (by omega) (by omega)
 have e2:i64.wrap (((16*tF c (nP c)+16:Nat):Int)-1)=((16*tF c (nP c)+15:Nat):Int):=zz _ _ (by omega) (by omega)
 rw[e1,e2,zcg _ (by omega)]
 omega
theorem zDr : ∀ m i,i+(m+1)=(zaG c).length->∀ (x0 x1 x3:Int) (x4:List zj) (x5:List zE),Inv c i x0 x4 x5->∃ L:zaQ,zjb c (.l4 ((zaG c).map mkR) x0 x1 (i:Int) x3 x4 x5)=some (L,0)/\L.end_=(tF c (nP c):Int)/\L.partitions=((zaG c).drop i).foldl zdP x4:=by
 have hlen:=zvt g hk
 intro m
 induction m with
 | zero=>
  intro i hi x0 x1 x3 x4 x5 h
  have hil:i<(zaG c).length:=by omega
  obtain ⟨x0',x3',x5',h',e⟩:=zvk g hk hil (x0:=x0) (x1:=x1) (x3:=x3) h (by omega)
  obtain ⟨l,x,hl,hx⟩:=zsc g hk
  have hg : ∀ h:i<(zaG c).length,(zaG c)[i]=x:=by
   rw[hl]at hi ⊢
   intro h
   have hil:i=l.length:=by rw[List.length_append,List.length_singleton]at hi;omega
   subst hil
   simp
  have p1':zjo c=some ((zaG c).map mkR):=(ziW g hk)
  rw[e,List.drop_eq_getElem_cons hil,List.drop_eq_nil_of_le (show(zaG c).length<=i+1 by omega),hg,hx]
  have hf:decide (((i+1:Nat):Int)<(((zaG c).map mkR).length:Int))=false:=z9 (by rw[List.length_map];omega)
  rw[zgD]
  simp only[zlS,p1',hf,cnF,zGI g hk,id,Tree.run,Option.bind_some]
  exact⟨_,rfl,rfl,rfl⟩
 | succ m ih=>
  intro i hi x0 x1 x3 x4 x5 h
  have hil:i<(zaG c).length:=by omega
  obtain ⟨x0',x3',x5',h',e⟩:=zvk g hk hil (x0:=x0) (x1:=x1) (x3:=x3) h (by omega)
  rw[e,List.drop_eq_getElem_cons hil]
  exact ih (i+1) (by omega) _ _ _ _ _ h'
theorem zAP : ∀ m k,k+m=nC c->∀ xs:List zE,xs.length=nC c->(∀ p ∈ xs,p.dests.length<=0)->∃ L:zaQ,zjb c (.l0 (k:Int) xs)=some (L,0)/\L.end_=(tF c (nP c):Int)/\L.partitions=plT c (nP c):=by
 have hC:=g.chans
 have hP:=g.few.parts
 intro m
 induction m with
 | zero=>
  intro k hk' xs hx hd
  have p1':zjo c=some ((zaG c).map mkR):=ziW g hk
  have hf:decide ((k:Int)<(c.channels.length:Int))=false:=z9 (by unfold nC at hk';omega)
  rw[zgD]
  simp only[zlS,hf,p1',cnF,cnT,tnC,Tree.run,Option.bind_some]
  obtain ⟨l,x,hl,_⟩:=zsc g hk
  rw[← zAd]
  refine zDr g hk ((zaG c).length-1) 0 (by rw[hl,List.length_append,List.length_singleton];omega) _ _ _ _ _ ⟨⟨Int.le_refl _,fun h=>by omega⟩,by rw[List.length_replicate];rfl,hx,fun p hp=>?_,hd⟩
  rw[(List.mem_replicate.1 hp).2];exact Nat.le_refl _
 | succ m ih=>
  intro k hk' xs hx hd
  have hkk:k<c.channels.length:=by unfold nC at hk';omega
  obtain ⟨r,hr⟩:=zBz g (k:Int)
  have hkx:k<xs.length:=by omega
  have hl2 : ∀ y,k<(List.set xs k y).length:=fun y=>by rw[List.length_set];exact hkx
  rw[zgD]
  simp only[zlS,tnC,zY hkk,hr,zn hkx,zn (hl2 _),cnT,zi k (show k<4611686018427387904 by omega),Tree.run,Option.bind_some]
  refine ih (k+1) (by omega) _ (by rw[List.length_set,List.length_set];exact hx) fun p hp=>?_
  have h0:=hd _ (zlO hkx)
  rcases List.mem_or_eq_of_mem_set hp with hp | rfl
  . rcases List.mem_or_eq_of_mem_set hp with hp | rfl
    . exact hd p hp
    . exact h0
  . have e:zG (List.set xs k ⟨(zG xs k).lock,(zG xs k).stage,r.1,(zG xs k).port,(zG xs k).dests⟩) k=⟨(zG xs k).lock,(zG xs k).stage,r.1,(zG xs k).port,(zG xs k).dests⟩:=by
     simp[zG,List.getD,List.getElem?_set,hkx]
    show(zG (List.set xs k _) k).dests.length<=0
    rw[e];exact h0
theorem zDs : ∃ L:zaQ,zgN c=some (L,0)/\L.end_=(tF c (nP c):Int)/\L.partitions=plT c (nP c):=by
 have k1':znw c=some true:=zEX g hk
 have hC:=g.chans
 have hP:=g.few.parts
 unfold zgN zEv
 dsimp only [Tree.run0,Tree.run]
 rw[k1',Option.bind_some,Bool.not_true,cnF,zAv _ _ (by unfold B47;omega),zAv _ _ (by unfold B47;omega),cnT,cnT,tnC]
 exact zAP g hk (nC c) 0 (Nat.zero_add _) _ (by rw[List.length_replicate];rfl) fun p hp=>by rw[(List.mem_replicate.1 hp).2];exact Nat.le_refl _
theorem zHp:zna c=some ((tF c (nP c):Int)-c.kernel,0):=by
 obtain ⟨L,h1,h2,_⟩:=zDs g hk
 have k1':zgN c=some (L,0):=h1
 have ht:=zpr g hk (Nat.le_refl (nP c))
 unfold zna
 dsimp only [Tree.run0,Tree.run]
 rw[k1',Option.bind_some,h2,zal _ (by omega) (by omega)]
 rfl
theorem zHo:zne c=some ((tF c (nP c):Int)-c.kernel,0):=by
 have k1':zcZ c=some (lay c,0):=zrO g hk
 have ht:=zpr g hk (Nat.le_refl (nP c))
 unfold zne
 dsimp only [Tree.run0,Tree.run]
 rw[k1',Option.bind_some,show(lay c,(0:Int)).1.end_=(tF c (nP c):Int)from rfl,zal _ (by omega) (by omega)]
 rfl
end
noncomputable def kin(c:za):Bool:=decide (0<=c.kernel)&&decide (c.kernel<=i64.wrap (c.frames-1))
noncomputable def rin(c:za):Bool:=decide (1<=c.room)&&decide (c.room<=i64.wrap (c.frames-c.kernel))
noncomputable def kmq(c:za)(p k:Nat):Bool:=zgh (Rg c p k).frame (Rg c p k).pages c.kernel c.room
noncomputable def zov(c:za):Bool:=(List.range (nP c)).any fun p=>(List.range (zaH c p)).any (kmq c p)
noncomputable def zl9(c:za):Bool:=kin c&&(rin c&&(!(zov c)&&decide ((tF c (nP c):Int)-c.kernel<=c.room)))
theorem zAo{c:za}(g:zaA c)(h:kin c=true):0<=c.kernel/\c.kernel<1024:=by
 have hf:=g.frames
 unfold kin at h
 rw[zal _ (by omega) (by omega)]at h
 simp only[Bool.and_eq_true,decide_eq_true_eq]at h
 omega
theorem zGv{c:za}(g:zaA c):zpj c=some (zl9 c):=by
 have hP:=g.few.parts
 unfold zpj zEL zl9
 dsimp only [Tree.run0,Tree.run]
 rw[zjV,zjV]
 show cond (!(kin c)) _ (cond (!(rin c)) _ _)=_
 cases h1:kin c with
 | false=>rfl
 | true=>
 cases h2:rin c with
 | false=>rfl
 | true=>
 rw[Bool.not_true,cnF,cnF,Bool.true_and,Bool.true_and]
 have hk:=zAo g h1
 have h:=zas (n:=nP c) (f:=fun p=>zpd c (.l0 (p:Int))) (q:=fun p=>(List.range (zaH c p)).any (kmq c p)) (r:=some false) (e:=some (decide ((tF c (nP c):Int)-c.kernel<=c.room))) (fun p hp=>by
  have hp':p<c.partitions.length:=hp
  have hn:=(g.nregs p hp').2
  have hin:=zas (n:=zaH c p) (f:=fun k=>zpd c (.l4 (p:Int) (k:Int))) (q:=kmq c p) (r:=some false) (e:=zpd c (.l0 ((p+1:Nat):Int))) (fun k hkk=>by
   have hkk':k<(zb c.partitions p).regions.length:=hkk
   rw[zjg]
   simp only[zoa,tnC,zn hp',zY hkk',zn hkk',cnT,zi k (show k<4611686018427387904 by omega),Tree.run,Option.bind_some]
   rfl) (by
   have hf:decide ((zaH c p:Int)<((zb c.partitions p).regions.length:Int))=false:=z9 (Nat.le_refl _)
   rw[zjg]
   simp only[zoa,tnC,zn hp',hf,cnT,cnF,zi p (show p<4611686018427387904 by omega),Tree.run,Option.bind_some])
  refine Eq.trans ?_ hin
  rw[zjg]
  simp only[zoa,zY hp',cnT,Tree.run,Option.bind_some]
  rfl) (by
  have k1':zna c=some _:=zHp g hk
  have hf:decide ((nP c:Int)<(c.partitions.length:Int))=false:=z9 (Nat.le_refl _)
  rw[zjg]
  simp only[zoa,hf,cnF,k1',cnT,Tree.run,Option.bind_some]
  rfl)
 refine Eq.trans h ?_
 show cond (zov c) _ _=_
 cases zov c <;> rfl
theorem zAn{c:za}(g:zaA c):zkg c=some (zl9 c):=by
 have hP:=g.few.parts
 unfold zkg zzE zl9
 dsimp only [Tree.run0,Tree.run]
 rw[zfD,zfD]
 show cond (!(kin c)) _ (cond (!(rin c)) _ _)=_
 cases h1:kin c with
 | false=>rfl
 | true=>
 cases h2:rin c with
 | false=>rfl
 | true=>
 rw[Bool.not_true,cnF,cnF,Bool.true_and,Bool.true_and]
 have hk:=zAo g h1
 have h:=zas (n:=nP c) (f:=fun p=>zkb c (.l0 (p:Int))) (q:=fun p=>(List.range (zaH c p)).any (kmq c p)) (r:=some false) (e:=some (decide ((tF c (nP c):Int)-c.kernel<=c.room))) (fun p hp=>by
  have hp':p<c.partitions.length:=hp
  have hn:=(g.nregs p hp').2
  have hin:=zas (n:=zaH c p) (f:=fun k=>zkb c (.l4 (p:Int) (P c p).regions (zaH c p) (k:Int))) (q:=kmq c p) (r:=some false) (e:=zkb c (.l0 ((p+1:Nat):Int))) (fun k hkk=>by
   have hkk':k<(P c p).regions.length:=hkk
   rw[zhc]
   simp only[zjC,tnC,zY hkk,zn hkk',cnT,zi k (show k<4611686018427387904 by omega),Tree.run,Option.bind_some]
   rfl) (by
   rw[zhc]
   simp only[zjC,z9 (Nat.le_refl _),cnF,zi p (show p<4611686018427387904 by omega),Tree.run,Option.bind_some])
  refine Eq.trans ?_ hin
  rw[zhc]
  simp only[zjC,tnC,zY hp',zn hp',cnT,Tree.run,Option.bind_some]
  rfl) (by
  have k1':zne c=some _:=zHo g hk
  have hf:decide ((nP c:Int)<(c.partitions.length:Int))=false:=z9 (Nat.le_refl _)
  rw[zhc]
  simp only[zjC,hf,cnF,k1',cnT,Tree.run,Option.bind_some]
  rfl)
 refine Eq.trans h ?_
 show cond (zov c) _ _=_
 cases zov c <;> rfl
noncomputable def zbI(c:za):Bool:=zlm c&&zl9 c
theorem zlJ{c:za}(hc:zco c):zc2 (zfp c) (zbI c):=zCU hc fun h=>zGv (zp8 hc h)
theorem zjv{c:za}(hc:zco c):zc2 (zdI c) (zbI c):=zCT hc fun h=>zAn (zp8 hc h)
theorem zkL(s:Nat) : ∀ (l:List LayoutEnd) (a j:Nat),j<l.length->zcC (zb5 s a l) j=⟨(z7 l j).partition,(z7 l j).port,((a+j*s:Nat):Int)⟩
 | [],_,_,h=>by simp at h
 | e :: l,a,0,h=>by simp[zb5,zcC,z7]
 | e :: l,a,j+1,h=>by
  have:=zkL s l (a+s) j (by simpa using h)
  rw[show a+s+j*s=a+(j+1)*s by rw[Nat.add_mul];omega]at this
  exact this
theorem zGC{c:za}{n k:Nat}(hk:k<n):zG (chL c n) k=zxa c k:=by
 simp[zG,List.getD,chL,hk]
theorem zv9{f n j:Nat}(hj:j<n):zw (zht f n) j=((f+1+j:Nat):Int):=by
 simp[zw,List.getD,zht,hj]
section
variable {c:za} (g:zaA c) (hk:0<=c.kernel/\c.kernel<1024)
include g hk
end
theorem zfc{α R:Type}{l:List α}{f:Nat->Option R}{q:α->Bool}{g:α->Option R}{e:Option R}(hs : ∀ i (h:i<l.length),f i=cond (q l[i]) (g l[i]) (f (i+1)))(he:f l.length=e):f 0=match l.find? q with | some x=>g x | none=>e:=by
 have : ∀ m i,i+m=l.length->f i=match(l.drop i).find? q with | some x=>g x | none=>e:=by
  intro m
  induction m with
  | zero=>
   intro i hi
   rw[Nat.add_zero]at hi
   subst hi
   simp[he]
  | succ m ih=>
   intro i hi
   have hl:i<l.length:=by omega
   rw[hs i hl,ih (i+1) (by omega),List.drop_eq_getElem_cons hl,List.find?_cons]
   cases q l[i] <;> rfl
 have h:=this l.length 0 (Nat.zero_add _)
 rwa [List.drop_zero]at h
noncomputable def zhq(c:za)(f:Nat)(p k:Nat):Bool:=decide ((Rg c p k).frame<=f)&&decide ((f:Int)<(Rg c p k).frame+(Rg c p k).pages)
noncomputable def zBl(c:za)(f:Nat):Option Nat:=(List.range (nP c)).find? fun p=>(List.range (zaH c p)).any (zhq c f p)
noncomputable def own(c:za)(a:Nat):zbx:=match(zaG c).find? (fun x=>inP x a)with
 | some x=>x.2.2
 | none=>match zBl c (a / 16)with
  | some p=>⟨1,(p:Int),0⟩
  | none=>⟨0,0,0⟩
section
variable {c:za} (g:zaA c) (hk:0<=c.kernel/\c.kernel<1024)
include g
theorem zBm{p k:Nat}(hp:p<nP c)(hkk:k<zaH c p):0<=(Rg c p k).frame/\1<=(Rg c p k).pages/\(Rg c p k).frame+(Rg c p k).pages<=1024/\i64.wrap ((Rg c p k).frame+(Rg c p k).pages)=(Rg c p k).frame+(Rg c p k).pages:=by
 have h:=g.regs p k hp hkk
 obtain ⟨h1,h2⟩:=h.ok.pages
 have h3:=h.frame
 have h4:=h.fits
 have h5:=g.frames
 exact⟨h3,h1,by omega,zal _ (by omega) (by omega)⟩
theorem znW{a:Nat}(ha:a<100000):zi9 c (a:Int) (.l4 0)=some (match zBl c (a / 16)with | some p=>⟨1,(p:Int),0⟩ | none=>⟨0,0,0⟩,0):=by
 have hP:nP c<=8:=g.few.parts
 have h:=zfc (l:=List.range (nP c)) (f:=fun p=>zi9 c (a:Int) (.l4 (p:Int))) (q:=fun p=>(List.range (zaH c p)).any (zhq c (a / 16) p)) (g:=fun p=>some ((⟨1,(p:Int),0⟩:zbx),(0:Int))) (e:=some ((⟨0,0,0⟩:zbx),0)) (fun p hp=>by
  rw[List.length_range]at hp
  rw[List.getElem_range]
  have hp':p<c.partitions.length:=hp
  have hn:=(g.nregs p hp').2
  have hin:=zas (n:=zaH c p) (f:=fun k=>zi9 c (a:Int) (.l8 (p:Int) (p:Int) (zaH c p) (k:Int))) (q:=zhq c (a / 16) p) (r:=some ((⟨1,(p:Int),0⟩:zbx),(0:Int))) (e:=zi9 c (a:Int) (.l4 ((p+1:Nat):Int))) (fun k hkk=>by
   have hkk':k<(zb c.partitions p).regions.length:=hkk
   obtain ⟨r1,r2,r3,r4⟩:=zBm g hp hkk
   have d1:decide ((zh (zb c.partitions p).regions k).frame>=0)=true:=decide_eq_true r1
   have d2:decide ((zh (zb c.partitions p).regions k).frame<=1024)=true:=decide_eq_true (by show(Rg c p k).frame<=1024;omega)
   have d4:i64.wrap ((zh (zb c.partitions p).regions k).frame+(zh (zb c.partitions p).regions k).pages)=(Rg c p k).frame+(Rg c p k).pages:=r4
   rw[zfg]
   simp only[zkC,tnC,zY hkk,zn hp',zn hkk',cnT,d1,d2,d4,zcg a (by omega),zi k (show k<4611686018427387904 by omega),zfT,id,Tree.run,Option.bind_some]
   rfl) (by
   rw[zfg]
   simp only[zkC,z9 (Nat.le_refl _),cnF,zi p (show p<4611686018427387904 by omega),Tree.run,Option.bind_some])
  refine Eq.trans ?_ hin
  rw[zfg]
  simp only[zkC,tnC,zY hp',zn hp',cnT,Tree.run,Option.bind_some]
  rfl) (by
  rw[List.length_range]
  have hf:decide ((nP c:Int)<(c.partitions.length:Int))=false:=z9 (Nat.le_refl _)
  rw[zfg]
  simp only[zkC,hf,cnF,id,Tree.run,Option.bind_some])
 refine Eq.trans h ?_
 unfold zBl
 cases List.find? (fun p=>(List.range (zaH c p)).any (zhq c (a / 16) p)) (List.range (nP c)) <;> rfl
include hk
theorem zDw{a:Nat}(ha:(a:Int)<16*c.frames):zvN c (a:Int)=some (own c a,0):=by
 have hf:=g.frames
 have k1':znw c=some true:=zEX g hk
 have p1':zjo c=some ((zaG c).map mkR):=ziW g hk
 have hlen:=zvt g hk
 unfold zvN zEo
 dsimp only [Tree.run0,Tree.run]
 rw[k1',Option.bind_some,Bool.not_true,cnF,zcg a (by omega),decide_eq_false (by omega),decide_eq_false (by omega),decide_eq_false (by omega),cnF,cnF,cnF,p1',Option.bind_some]
 have h:=zfc (l:=zaG c) (f:=fun i=>zi9 c (a:Int) (.l0 ((zaG c).map mkR) (i:Int))) (q:=fun x=>inP x a) (g:=fun x=>some (x.2.2,(0:Int))) (e:=zi9 c (a:Int) (.l4 0)) (fun i hi=>by
  have hm:(zaG c)[i] ∈ zaG c:=List.getElem_mem hi
  have he:=zvs g hk hm
  have hl:i<((zaG c).map mkR).length:=by rw[List.length_map];exact hi
  have ew:i64.wrap ((mkR (zaG c)[i]).at_+(mkR (zaG c)[i]).size)=(((zaG c)[i].1+(zaG c)[i].2.1:Nat):Int):=zz _ _ (by simp only[mkR];omega) (by omega)
  have d1:decide ((mkR (zaG c)[i]).at_<=(a:Int))=decide ((zaG c)[i].1<=a):=by rw[decide_eq_decide];show(((zaG c)[i].1:Nat):Int)<=a ↔ _;omega
  have d2:decide ((a:Int)<(((zaG c)[i].1+(zaG c)[i].2.1:Nat):Int))=decide (a<(zaG c)[i].1+(zaG c)[i].2.1):=by rw[decide_eq_decide];omega
  rw[zfg]
  simp only[zkC,tnC,p1',zY hl,zn hl,cnT,zrg hi,ew,d1,d2,zi i (show i<4611686018427387904 by omega),zfT,id,Tree.run,Option.bind_some]
  rfl) (by
  have hf:decide (((zaG c).length:Int)<(((zaG c).map mkR).length:Int))=false:=z9 (by rw[List.length_map];exact Nat.le_refl _)
  rw[zfg]
  simp only[zkC,p1',hf,cnF,Tree.run,Option.bind_some])
 refine Eq.trans h ?_
 rw[znW g (by omega)]
 unfold own
 cases (zaG c).find? (fun x=>inP x a) <;> rfl
end
noncomputable def nW(c:za):Nat:=16*c.frames.toNat
theorem zvi{c:za}(g:zaA c)(hk:0<=c.kernel/\c.kernel<1024):nW c<=16384/\(nW c:Int)=16*c.frames:=by
 have:=g.frames
 unfold nW;omega
theorem zAD(a m b o:Int):zgh a m b o=(decide (a<i64.wrap (b+o))&&decide (b<i64.wrap (a+m))):=by
 unfold zgh
 unfold zoV
 dsimp only [Tree.val]
 by_cases h:a<i64.wrap (b+o) <;> simp[h]
theorem zAE{a m b o x:Int}(h1:0<=a/\0<=m/\a+m<=4096)(h2:0<=b/\0<=o/\b+o<=4096)(h3:a<=x/\x<a+m)(h4:b<=x/\x<b+o):zgh a m b o=true:=by
 rw[zAD,zal _ (by omega) (by omega),zal _ (by omega) (by omega),decide_eq_true (by omega),decide_eq_true (by omega)];rfl
structure zeJ(c:za):Prop where
 kernel:0<=c.kernel/\c.kernel<1024
 room:1<=c.room/\c.kernel+c.room<=c.frames
 apart : ∀ p k,p<nP c->k<zaH c p->zgh (Rg c p k).frame (Rg c p k).pages c.kernel c.room=false
 need:(tF c (nP c):Int)-c.kernel<=c.room
theorem zDg{c:za}(g:zaA c)(h:zl9 c=true):zeJ c:=by
 simp only[zl9,Bool.and_eq_true,decide_eq_true_eq]at h
 obtain ⟨h1,h2,h3,h4⟩:=h
 have hk:=zAo g h1
 have hf:=g.frames
 unfold rin at h2
 rw[zal _ (by omega) (by omega)]at h2
 simp only[Bool.and_eq_true,decide_eq_true_eq]at h2
 refine⟨hk,⟨h2.1,by omega⟩,fun p k hp hkk=>?_,h4⟩
 have h5:zov c=false:=by simpa using h3
 exact any_f.1 (any_f.1 h5 p hp) k hkk
def mk(N:Nat)(f:Nat->Int):List Int:=(List.range N).map f
theorem zP(N:Nat)(f:Nat->Int):(mk N f).length=N:=by simp[mk]
theorem zbg{N i:Nat}(h:i<N)(f:Nat->Int):zw (mk N f) i=f i:=by simp[zw,mk,List.getD,h]
theorem zAJ{N i:Nat}(h:N<=i)(f:Nat->Int):zw (mk N f) i=0:=by simp[zw,mk,List.getD,Nat.not_lt.2 h]
theorem zbS{N:Nat}{f g:Nat->Int}(h : ∀ i,i<N->f i=g i):mk N f=mk N g:=List.map_congr_left fun i hi=>h i (List.mem_range.1 hi)
theorem zu6{l l':List Int}(hl:l.length=l'.length)(h : ∀ i,i<l.length->zw l i=zw l' i):l=l':=by
 refine List.ext_getElem hl fun i h1 h2=>?_
 have:=h i h1
 simpa [zw,List.getD,h1,h2]using this
theorem zEY{l:List Int}{N:Nat}(h:l.length=N):l=mk N (zw l):=zu6 (by rw[zP,h]) fun i hi=>by rw[zbg (by omega)]
theorem zdK{N j:Nat}(h:j<N)(f:Nat->Int)(y:Int):List.set (mk N f) j y=mk N (fun i=>if i=j then y else f i):=by
 refine zu6 (by simp[zP]) fun i hi=>?_
 rw[List.length_set,zP]at hi
 rw[zbg hi]
 have:=zbg hi f
 simp only[zw,List.getD,List.getElem?_set,zP]at this ⊢
 by_cases hij:j=i
 . subst hij;simp[h]
 . rw[if_neg hij,if_neg (fun e=>hij e.symm)];exact this
theorem zqd(N:Nat)(y:Int):List.replicate N y=mk N (fun _=>y):=by
 refine List.ext_getElem (by simp[mk]) fun i h1 h2=>?_
 simp[mk]
theorem zcv{N k:Nat}(h:k<=N)(f:Nat->Int):(mk N f).take k=mk k f:=by
 refine List.ext_getElem (by simp[mk];omega) fun i h1 h2=>?_
 simp[mk]
theorem zd3(N a:Nat)(f:Nat->Int):(mk N f).drop a=mk (N-a) (fun i=>f (a+i)):=by
 refine List.ext_getElem (by simp[mk]) fun i h1 h2=>?_
 simp[mk]
theorem zvg(N:Nat)(f:Nat->Int):mk N f++[f N]=mk (N+1) f:=by simp[mk,List.range_succ]
theorem zAI(N M:Nat)(f g:Nat->Int):mk N f++mk M g=mk (N+M) (fun i=>if i<N then f i else g (i-N)):=by
 refine List.ext_getElem (by simp[mk]) fun i h1 h2=>?_
 have h1':i<N+M:=by simpa [mk]using h1
 by_cases h:i<N
 . rw[List.getElem_append_left (by simpa [mk]using h)];simp[mk,h]
 . rw[List.getElem_append_right (by simpa [mk]using h)];simp[mk,h]
theorem zsZ{xs ys:List Int}(h:ys.length=xs.length):zcA xs 0 ys=ys:=by simp[zcA,h]
theorem zjp{N n a:Nat}(h:a+n<=N)(f g:Nat->Int):zcA (mk N f) a (mk n g)=mk N (fun i=>if a<=i/\i<a+n then g (i-a)else f i):=by
 unfold zcA
 rw[zP,zcv (by omega),zd3,zAI,zAI]
 have:a+(n+(N-(a+n)))=N:=by omega
 rw[this]
 refine zbS fun i hi=>?_
 by_cases h1:i<a
 . rw[if_pos h1,if_neg (by omega)]
 . rw[if_neg h1]
   by_cases h2:i-a<n
   . rw[if_pos h2,if_pos (by omega)]
   . rw[if_neg h2,if_neg (by omega)]
     exact congrArg f (by omega)
def U32(f:Nat->Int):Prop:=∀ i,0<=f i/\f i<4294967296
theorem U32.w64{f:Nat->Int}(h:U32 f)(i:Nat):i64.wrap (f i)=f i:=by
 obtain ⟨h1,h2⟩:=h i
 exact zal _ (by omega) (by omega)
theorem U32.sh{f:Nat->Int}(h:U32 f)(a:Nat):U32 fun i=>f (a+i):=fun i=>h (a+i)
theorem zbQ{n:Int}(h0:0<=n)(h1:n<4294967296):u32.wrap n=n:=by
 simp[IntKind.wrap,IntKind.bits,IntKind.signed];omega
theorem mkT{x:Int}(h0:0<=x)(h1:x<=100000){b:Nat}(hb:b<=104):(decide (x=x)&&decide (0<=x)&&leB (x.toNat*b) 140737488355328)=true:=by
 have:x.toNat*b<=100000*104:=Nat.mul_le_mul (by omega) hb
 rw[decide_eq_true h0,za0 (by omega),decide_eq_true (rfl:x=x)];rfl
theorem mkT2{x:Int}(h0:0<=x)(h1:x<=100000){b:Nat}(hb:b<=104):(decide True&&decide (0<=x)&&leB (x.toNat*b) 140737488355328)=true:=by
 have:=mkT h0 h1 hb
 rwa [decide_eq_true (rfl:x=x)]at this
theorem zCY{K:Nat}(hK:K<=100000)(f:Nat->Int):zuj (mk K f)=some (!((List.range K).any fun i=>!(f i==0))):=by
 have h:=zas (n:=K) (f:=fun i=>zqz (mk K f) (.l0 (i:Int))) (q:=fun i=>!(f i==0)) (r:=some false) (e:=some true) (fun i hi=>by
  rw[zo9]
  simp only[zpU,zP,zY hi,cnT,zn hi,tnC,zbg hi,zi i (by omega),id,Tree.run,Option.bind_some]) (by rw[zo9];simp only[zpU,zP,z9 (Nat.le_refl _),cnF,id,Tree.run,Option.bind_some])
 refine h.trans ?_
 cases (List.range K).any _ <;> rfl
def zeo(f:Nat->Int)(h W:Nat):Bool:=decide (1<=f (h-1))&&decide (f (h-1)<=(W:Int))&&!((List.range (W-(f (h-1)).toNat)).any fun i=>!(f (h+(f (h-1)).toNat+i)==0))
def zbO(f:Nat->Int)(h W:Nat):Bool:=!((List.range (h+W)).any fun i=>!(f i==0)) || ((f 0==1)&&(!(h==3) || decide (f 1<=1))&&zeo f h W)
section
variable {N:Nat} {f:Nat->Int} {a n:Nat}
theorem zjr(hN:N<=100000)(h:a+n<=N):zfo (some ⟨mk N f⟩) (a:Int) (n:Int)=some 0:=by
 unfold zfo
 dsimp only [Tree.run0,Tree.run]
 have h0:(some (⟨mk N f⟩:ze)).getD default=⟨mk N f⟩:=rfl
 have h1:(some (⟨mk N f⟩:ze)).isNone=false:=rfl
 have h2:(some (⟨mk N f⟩:ze)).isSome=true:=rfl
 have ew:i64.wrap ((N:Int)-(a:Int))=(N:Int)-(a:Int):=zal _ (by omega) (by omega)
 rw[h1,h2,h0,cnF,decide_eq_false (show ¬ ((a:Int)<0)by omega),cnF,decide_eq_false (show ¬ ((n:Int)<0)by omega),cnF,cnT,zP,decide_eq_false (show ¬ ((a:Int)>(N:Int))by omega),cnF,cnT,ew,decide_eq_false (show ¬ ((n:Int)>(N:Int)-(a:Int))by omega)]
 rfl
theorem zqZ(hN:N<=100000)(h:a+n<=N):zcX (some ⟨mk N f⟩) (a:Int) (n:Int)=some (mk n fun i=>f (a+i),0):=by
 have k1':zfo (some ⟨mk N f⟩) (a:Int) (n:Int)=some 0:=zjr (f:=f) hN h
 have h0:(some (⟨mk N f⟩:ze)).getD default=⟨mk N f⟩:=rfl
 unfold zcX
 dsimp only [Tree.run0,Tree.run]
 rw[k1',Option.bind_some,h0]
 show cond (decide ((n:Int)=n)&&decide (0<=(n:Int))&&leB ((n:Int).toNat*4) 140737488355328) _ _=_
 rw[mkT (by omega) (by omega) (by decide),cnT]
 show cond (inS (a:Int) ((mk N f).length:Int) (mk N f).length) _ _=_
 rw[zP,inS_iff.2 ⟨by omega,by omega,by omega⟩,cnT,tnC,tnC,tnC,zcv (Nat.le_refl _),zd3,List.length_replicate,zcv (by omega),zsZ (by rw[zP,List.length_replicate])]
end
section
variable {N:Nat} {f:Nat->Int} (hf:U32 f) {a W:Nat}
include hf
theorem zve(m:ze)(h1:1<=W)(hW:W<=16):zgx (some m) (W:Int)=0:=by
 unfold zgx
 dsimp only [Tree.val]
 rw[decide_eq_false (show ¬ ((W:Int)<1)by omega),decide_eq_false (show ¬ ((W:Int)>16)by omega)];rfl
end
def znV(f:Nat->Int)(W:Nat):Bool:=decide (f 0<=(W:Int))&&!((List.range (W-(f 0).toNat)).any fun i=>!(f (1+(f 0).toNat+i)==0))
theorem zDo{f:Nat->Int}{W:Nat}(h : ¬ f 0<=(W:Int)):znV f W=false:=by unfold znV;rw[decide_eq_false h];rfl
theorem zxt{f:Nat->Int}(hf:U32 f){W:Nat}(hW:W<=16):znh (mk (1+W) f)=some (cond (znV f W) (mk (f 0).toNat fun i=>f (1+i)) [],znV f W):=by
 have e1:i64.wrap (((1+W:Nat):Int)-1)=((W:Nat):Int):=zz _ _ (by omega) (by omega)
 have e2:u32.wrap ((W:Nat):Int)=((W:Nat):Int):=zbQ (by omega) (by omega)
 obtain ⟨n0,n1⟩:=hf 0
 unfold znh zzU
 dsimp only [Tree.run0,Tree.run]
 rw[zP,zbA (x:=0) (Int.le_refl _) (by omega),cnT,zbg (show 0<1+W by omega),e1,e2]
 by_cases c:f 0>(W:Int)
 . rw[decide_eq_true c,zDo (by omega)];rfl
 . have e3:u32.wrap (1+f 0)=1+f 0:=zbQ (by omega) (by omega)
   obtain ⟨n,hn⟩ : ∃ n:Nat,f 0=(n:Int):=⟨(f 0).toNat,by omega⟩
   have e4:(1+f 0).toNat=1+n:=by omega
   have e5:((mk (1+W) f).take (1+W)).drop (1+n)=mk (W-n) fun i=>f (1+n+i):=by
    rw[zcv (Nat.le_refl _),zd3,show 1+W-(1+n)=W-n by omega]
   have hm:znV f W=!((List.range (W-n)).any fun i=>!(f (1+n+i)==0)):=by
    unfold znV;rw[hn,tnC,decide_eq_true (show(n:Int)<=(W:Int)by omega)];rfl
   rw[decide_eq_false c,cnF,e3,inS_iff.2 ⟨by omega,by omega,by omega⟩,cnT]
   have hl:=zas (n:=W-n) (f:=fun i=>zqy (mk (1+W) f) (.l0 (i:Int))) (q:=fun i=>!(f (1+n+i)==0)) (r:=some ([],false)) (e:=some (mk n (fun i=>f (1+i)),true)) (fun i hi=>by
    rw[zo7]
    simp only[zpS,zP,zbg (show 0<1+W by omega),e3,e4,tnC,e5,zY hi,cnT,zn hi,zbg hi,zi i (by omega),id,Tree.run,Option.bind_some]) (by
    rw[zo7]
    have e6:((mk (1+W) f).take (1+n)).drop 1=mk n fun i=>f (1+i):=by rw[zcv (by omega),zd3,Nat.add_sub_cancel_left]
    simp only[zpS,zP,zbg (show 0<1+W by omega),e3,e4,tnC,e5,z9 (Nat.le_refl _),cnF,e6,List.length_nil,List.nil_append,id,Tree.run,Option.bind_some]
    rw[inS_iff.2 ⟨by omega,by omega,by omega⟩,cnT,za0 (by omega),cnT])
   rw[hm,hn,tnC]
   refine hl.trans ?_
   cases (List.range (W-n)).any fun i=>!(f (1+n+i)==0) <;> rfl
def okQ(f:Nat->Int)(W D first:Nat)(many:Int)(i:Nat):Bool:=znV (fun j=>f ((first+i) % D*(1+W)+j)) W&&(decide ((i:Int)<many)==decide (f ((first+i) % D*(1+W))>0))
def zfZ(f:Nat->Int)(W D first:Nat)(many:Int):Bool:=!((List.range D).any fun i=>!(okQ f W D first many i))
theorem zzv(a b:Nat):dv .rem .i64 (a:Int) (b:Int)=((a % b:Nat):Int):=by
 show Int.tmod (a:Int) (b:Int)=_
 rw[Int.tmod_eq_emod_of_nonneg (Int.natCast_nonneg a)]
 exact(Int.natCast_emod a b).symm
section
variable {f:Nat->Int} (hf:U32 f) {W D:Nat} (hW:W<=16) (hD1:1<=D) (hD:D<=8)
include hf hW hD1 hD
theorem zA9{first i:Nat}:(first+i) % D*(1+W)+(1+W)<=D*(1+W)/\D*(1+W)<=136:=by
 have h1:=Nat.mod_lt (first+i) (show D>0 by omega)
 have h2:((first+i) % D+1)*(1+W)<=D*(1+W):=Nat.mul_le_mul_right _ h1
 rw[Nat.add_mul,Nat.one_mul]at h2
 exact⟨h2,Nat.le_trans (Nat.mul_le_mul hD (show 1+W<=17 by omega)) (by decide)⟩
end
def zho(f:Nat->Int)(W D:Nat):Bool:=decide (f 0<=(D:Int))&&zfZ (fun i=>f (1+i)) W D 0 (f 0)
def zeC(f:Nat->Int)(W D:Nat):Bool:=decide (f 0<(D:Int))&&(decide (f 1<=(D:Int))&&((decide (f 1>0) || (f 0==0))&&zfZ (fun i=>f (3+i)) W D (f 0).toNat (f 1)))
section
variable {f:Nat->Int} (hf:U32 f) {W D:Nat} (hW1:1<=W) (hW:W<=16) (hD1:1<=D) (hD:D<=8) {N a:Nat} (hN:N<=100000)
include hf hW1 hW hD1 hD hN
theorem dw:i64.wrap ((D:Int)*i64.wrap (1+(W:Int)))=((D*(1+W):Nat):Int)/\D*(1+W)<=136:=by
 have h2:=(zA9 hf hW hD1 hD (first:=0) (i:=0)).2
 refine⟨?_,h2⟩
 rw[zz (1+(W:Int)) (1+W) (by omega) (by omega)]
 exact zz _ _ (Int.natCast_mul _ _).symm (by omega)
theorem zyX(h:Nat)(hh:h<=3):zeH ⟨(W:Int),(D:Int)⟩ (h:Int)=((h+D*(1+W):Nat):Int):=by
 obtain ⟨d1,d2⟩:=dw hf hW1 hW hD1 hD hN
 show i64.wrap ((h:Int)+i64.wrap ((D:Int)*i64.wrap (1+(W:Int))))=_
 rw[d1];exact zz _ _ (by omega) (by omega)
theorem zls(m:ze):zgw (some m) ⟨(W:Int),(D:Int)⟩=0:=by
 unfold zgw
 dsimp only [Tree.val]
 rw[show(some m).isNone=false from rfl,cnF]
 rw[decide_eq_false (show ¬ ((W:Int)<1)by omega),decide_eq_false (show ¬ ((W:Int)>16)by omega),decide_eq_false (show ¬ ((D:Int)<1)by omega),decide_eq_false (show ¬ ((D:Int)>8)by omega)];rfl
theorem zlI(h:Nat)(hh:h<=3)(ha:a+(h+D*(1+W))<=N):zex ⟨(W:Int),(D:Int)⟩ (some ⟨mk N f⟩) (a:Int) (h:Int)=some true:=by
 have k1':zcX (some ⟨mk N f⟩) (a:Int) ((h+D*(1+W):Nat):Int)=some _:=zqZ (f:=f) hN ha
 unfold zex
 dsimp only [Tree.run0,Tree.run]
 rw[zyX hf hW1 hW hD1 hD hN h hh,k1',Option.bind_some];rfl
end
def over(f:Nat->Int)(a n:Nat)(g:Nat->Int)(i:Nat):Int:=if a<=i/\i<a+n then g (i-a)else f i
theorem zg7{f g:Nat->Int}{a n i:Nat}(h:i<n):over f a n g (a+i)=g i:=by
 unfold over;rw[if_pos ⟨by omega,by omega⟩,Nat.add_sub_cancel_left]
theorem zaE{f g:Nat->Int}{a n i:Nat}(h : ¬ (a<=i/\i<a+n)):over f a n g i=f i:=by unfold over;rw[if_neg h]
theorem zep{f g:Nat->Int}{a n:Nat}(hf:U32 f)(hg : ∀ i,i<n->0<=g i/\g i<4294967296):U32 (over f a n g):=fun i=>by
 unfold over
 split
 . rename_i h;exact hg _ (by omega)
 . exact hf i
section
variable {N:Nat} {f:Nat->Int} {a n:Nat}
theorem zAs(hN:N<=100000)(h:a+n<=N)(g:Nat->Int):zeV (a:Int) (mk n g) (mk N f)=some (0,⟨mk N (over f a n g)⟩):=by
 have k1':zfo (some ⟨mk N f⟩) (a:Int) (n:Int)=some 0:=zjr (f:=f) hN h
 have e:zcA (mk N f) a (List.take (N-a) (mk n g))=mk N (over f a n g):=by
  rw[List.take_of_length_le (by rw[zP];omega),zjp h]
  rfl
 unfold zeV zzT
 dsimp only [Tree.run0,Tree.run]
 rw[zP,zP,k1',Option.bind_some,inS_iff.2 ⟨by omega,by omega,by omega⟩,cnT,tnC,tnC,e,zx1]
 simp only[zts,zP,k1',id,Tree.run,Option.bind_some]
 rfl
theorem zlK(hN:N<=100000)(h:a+1<=N)(x:Int):zdN (a:Int) x (mk N f)=some (0,⟨mk N (over f a 1 fun _=>x)⟩):=by
 have k1':zfo (some ⟨mk N f⟩) (a:Int) 1=some 0:=zjr (f:=f) hN h
 have e:List.set (mk N f) a x=mk N (over f a 1 fun _=>x):=by
  rw[zdK (by omega)]
  refine zbS fun i hi=>?_
  unfold over
  by_cases hia:i=a
  . rw[if_pos hia,if_pos (by omega)]
  . rw[if_neg hia,if_neg (by omega)]
 unfold zdN zzz
 dsimp only [Tree.run0,Tree.run]
 rw[k1',Option.bind_some,zP,zn (show a<N by omega),cnT,tnC,e,zxW]
 simp only[ztn,k1',id,Tree.run,Option.bind_some]
 rfl
theorem zGW(hN:N<=100000)(h:a+n<=N)(x:Int):zku (a:Int) (n:Int) x (mk N f)=some (0,⟨mk N (over f a n fun _=>x)⟩):=by
 have k1':zfo (some ⟨mk N f⟩) (a:Int) (n:Int)=some 0:=zjr (f:=f) hN h
 have hl:=zK (n:=n) (f:=fun i (xs:List Int)=>zh9 (a:Int) (n:Int) x (mk N f) (.l0 (i:Int) xs)) (S:=fun i=>mk N (over f a i fun _=>x)) (fun i hi=>by
  rw[zo8]
  have e1:i64.wrap ((a:Int)+(i:Int))=((a+i:Nat):Int):=zz _ _ (by omega) (by omega)
  have e2:List.set (mk N (over f a i fun _=>x)) (a+i) x=mk N (over f a (i+1) fun _=>x):=by
   rw[zdK (by omega)]
   refine zbS fun j hj=>?_
   unfold over
   by_cases hja:j=a+i
   . rw[if_pos hja,if_pos (by omega)]
   . rw[if_neg hja]
     by_cases hr:a<=j/\j<a+i
     . rw[if_pos hr,if_pos (by omega)]
     . rw[if_neg hr,if_neg (by omega)]
  simp only[zpT,zY hi,cnT,e1,zP,zn (show a+i<N by omega),tnC,e2,zi i (by omega),Tree.run,Option.bind_some])
 have e0:mk N (over f a 0 fun _=>x)=mk N f:=zbS fun i hi=>zaE (by omega)
 unfold zku zzZ
 dsimp only [Tree.run0,Tree.run]
 rw[k1',Option.bind_some]
 show zh9 (a:Int) (n:Int) x (mk N f) (.l0 0 (mk N f))=_
 have hl':zh9 (a:Int) (n:Int) x (mk N f) (.l0 0 (mk N f))=zh9 (a:Int) (n:Int) x (mk N f) (.l0 (n:Int) (mk N (over f a n fun _=>x))):=by
  have:=hl
  rw[e0]at this
  exact this
 rw[hl',zo8]
 simp only[zpT,z9 (Nat.le_refl n),cnF,id,Tree.run,Option.bind_some]
end
def zAM(f:Nat->Int)(h W:Nat):List Int:=cond (zeo f h W) (mk (f (h-1)).toNat fun i=>f (h+i)) []
theorem zxu{f:Nat->Int}(hf:U32 f){h W:Nat}(h1:1<=h)(h3:h<=3)(hW:W<=16):zno (mk (h+W) f) (h:Int)=some (zAM f h W,zeo f h W):=by
 have e1:i64.wrap ((h:Int)-1)=((h-1:Nat):Int):=zz _ _ (by omega) (by omega)
 have e2:zw (mk (h+W) f) (h-1)=f (h-1):=zbg (by omega) f
 have e3:(List.take ((h+W:Nat):Int).toNat (mk (h+W) f)).drop (h:Int).toNat=mk W fun i=>f (h+i):=by
  simp only[tnC]
  rw[zcv (Nat.le_refl _),zd3,Nat.add_sub_cancel_left]
 unfold zno zz1
 dsimp only [Tree.run0,Tree.run]
 simp only[zP,e1,tnC,e2,hf.w64,zn (show h-1<h+W by omega),cnT]
 have e3':(List.take (h+W) (mk (h+W) f)).drop h=mk W fun i=>f (h+i):=by simpa only [tnC]using e3
 rw[inS_iff.2 ⟨by omega,by omega,by omega⟩,cnT,e3',zP]
 obtain ⟨n0,n1⟩:=hf (h-1)
 by_cases c1:f (h-1)<1
 . rw[decide_eq_true c1,cnT]
   have:zeo f h W=false:=by unfold zeo;rw[decide_eq_false (show ¬ 1<=f (h-1)by omega)];rfl
   unfold zAM
   rw[this];rfl
 . rw [decide_eq_false c1,cnF]
   by_cases c2:f (h-1)>(W:Int)
   . rw[decide_eq_true c2,cnT]
     have:zeo f h W=false:=by unfold zeo;rw[decide_eq_false (show ¬ f (h-1)<=(W:Int)by omega),Bool.and_false];rfl
     unfold zAM
     rw[this];rfl
   . rw[decide_eq_false c2,cnF,inS_iff.2 ⟨by omega,by omega,by omega⟩,cnT]
     have en:(((f (h-1)).toNat:Nat):Int)=f (h-1):=by omega
     have e4:((((mk (h+W) f).take ((h+W:Nat):Int).toNat).drop (h:Int).toNat).take ((((mk (h+W) f).take ((h+W:Nat):Int).toNat).drop (h:Int).toNat).length:Int).toNat).drop (f (h-1)).toNat=mk (W-(f (h-1)).toNat) fun i=>f (h+(f (h-1)).toNat+i):=by
      rw[e3,zP,tnC,zcv (Nat.le_refl _),zd3]
      exact zbS fun i hi=>congrArg f (by omega)
     have hl:=zas (n:=W-(f (h-1)).toNat) (f:=fun i=>zqA (mk (h+W) f) (h:Int) (.l0 (i:Int))) (q:=fun i=>!(f (h+(f (h-1)).toNat+i)==0)) (r:=some ([],false)) (e:=some (mk (f (h-1)).toNat (fun i=>f (h+i)),true)) (fun i hi=>by
      rw[zpa]
      simp only[zpV,e1,tnC,e2,hf.w64,Tree.run,Option.bind_some]
      have e4':=e4
      simp only[tnC,zP]at e4' ⊢
      rw[e4',zP,zY hi,cnT,zn hi,cnT,zbg hi,zi i (by omega)]) (by
      rw[zpa]
      simp only[zpV,e1,tnC,e2,hf.w64,Tree.run,Option.bind_some]
      have e4':=e4
      simp only[tnC,zP]at e4' ⊢
      rw[e4',zP,z9 (Nat.le_refl _),cnF]
      rw[mkT2 (show 0<=f (h-1)by omega) (by omega) (by decide),cnT,e3',List.length_replicate,zcv (by omega),zsZ (by rw[zP,List.length_replicate])])
     refine hl.trans ?_
     have:zeo f h W=!((List.range (W-(f (h-1)).toNat)).any fun i=>!(f (h+(f (h-1)).toNat+i)==0)):=by
      unfold zeo;rw[decide_eq_true (show 1<=f (h-1)by omega),decide_eq_true (show f (h-1)<=(W:Int)by omega)];rfl
     unfold zAM
     rw[this]
     cases (List.range (W-(f (h-1)).toNat)).any fun i=>!(f (h+(f (h-1)).toNat+i)==0) <;> rfl
def zfb(f:Nat->Int)(h W:Nat):Bool:=(f 0==1)&&(!(h==3) || decide (f 1<=1))&&zeo f h W
def zbk(f:Nat->Int)(h W:Nat):List Int:=cond ((List.range (h+W)).any fun i=>!(f i==0)) (cond (zfb f h W) (mk (f (h-1)).toNat fun i=>f (h+i)) []) []
theorem zG9{f:Nat->Int}(hf:U32 f){h W:Nat}(h2:h=2 ∨ h=3)(hW:W<=16):znm (mk (h+W) f) (h:Int)=some (zbk f h W,zbO f h W):=by
 unfold znm zbO zbk zfb
 simp only[Tree.run,zCY (K:=h+W) (by omega) f,zxu hf (h:=h) (W:=W) (by omega) (by omega) hW,Option.bind_some]
 rw[zP,zbA (x:=0) (Int.le_refl _) (by omega),zbg (show 0<h+W by omega),zbA (x:=1) (by decide) (by omega),zbg (show 1<h+W by omega)]
 unfold zAM
 cases (List.range (h+W)).any fun i=>!(f i==0)with
 | false=>rfl
 | true=>
  cases f 0==1 with
  | false=>rfl
  | true=>
   rcases h2 with rfl | rfl
   . cases zeo f 2 W <;> rfl
   . by_cases c:f 1<=1
     . rw[decide_eq_true c,decide_eq_false (show ¬ f 1>1 by omega)];cases zeo f 3 W <;> rfl
     . rw[decide_eq_false c,decide_eq_true (show f 1>1 by omega)];rfl
section
variable {N:Nat} {f:Nat->Int} (hf:U32 f) {a W:Nat}
include hf
theorem zjq(hN:N<=100000){h:Nat}(h2:h=2 ∨ h=3)(hW:W<=16)(ha:a+(h+W)<=N):zcY (some ⟨mk N f⟩) (a:Int) (W:Int) (h:Int)=some (cond (zbO (fun i=>f (a+i)) h W) (zbk (fun i=>f (a+i)) h W) [],cond (zbO (fun i=>f (a+i)) h W) 0 191):=by
 have e:i64.wrap ((h:Int)+(W:Int))=((h+W:Nat):Int):=zz _ _ (by omega) (by omega)
 have k1':zcX (some ⟨mk N f⟩) (a:Int) ((h+W:Nat):Int)=some _:=zqZ (f:=f) hN ha
 have m1':znm (mk (h+W) fun i=>f (a+i)) (h:Int)=some _:=zG9 (hf.sh a) h2 hW
 unfold zcY
 simp only[Tree.run,e,k1',m1',Option.bind_some]
 cases zbO (fun i=>f (a+i)) h W <;> rfl
theorem zfa(F:Nat)(hF:F<=1024):zdH (some ⟨mk (16*F) f⟩)=some (F:Int):=by
 unfold zdH
 dsimp only [Tree.run0,Tree.run]
 have e:bop .quo .i64 ((16*F:Nat):Int) 16=(F:Int):=by
  show i64.wrap (Int.tdiv ((16*F:Nat):Int) 16)=_
  rw[Int.tdiv_eq_ediv_of_nonneg (by omega)]
  exact(congrArg i64.wrap (by omega)).trans (zal (F:Int) (by omega) (by omega))
 have h0:(some (⟨mk (16*F) f⟩:ze)).getD default=⟨mk (16*F) f⟩:=rfl
 have h1:(some (⟨mk (16*F) f⟩:ze)).isNone=false:=rfl
 have h2:(some (⟨mk (16*F) f⟩:ze)).isSome=true:=rfl
 rw[h0,h1,h2,zP,e]
 rfl
theorem zny{F n:Nat}(hF:F<=1024)(ha:a+n<=16*F):zfL (some ⟨mk (16*F) f⟩) (a:Int) (n:Int)=some 0:=by
 have k1':zdH (some ⟨mk (16*F) f⟩)=some (F:Int):=zfa hf F hF
 have e1:i64.wrap ((F:Int)*16)=(F:Int)*16:=zal _ (by omega) (by omega)
 have e2:i64.wrap ((F:Int)*16-(n:Int))=(F:Int)*16-(n:Int):=zal _ (by omega) (by omega)
 unfold zfL
 dsimp only [Tree.run0,Tree.run]
 rw[k1',Option.bind_some,e1,e2,decide_eq_false (show ¬ (a:Int)<0 by omega),cnF,decide_eq_false (show ¬ (a:Int)>(F:Int)*16-(n:Int)by omega)]
 rfl
end
end Go.Proofs.YtgajeebphoiphaaGreatDoor
end
