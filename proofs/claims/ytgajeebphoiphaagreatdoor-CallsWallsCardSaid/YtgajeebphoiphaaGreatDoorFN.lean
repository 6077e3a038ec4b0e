import Derived.Test.YtgajeebphoiphaaGreatDoorFF
set_option linter.unusedVariables false
set_option linter.unusedSimpArgs false
set_option linter.unusedSectionVars false
noncomputable section
open Go.IntKind (i64 u32)
namespace Go.Proofs.YtgajeebphoiphaaGreatDoor
open Go.RowKit
theorem zDu{f:Nat->Int}{a i:Nat}{z:Int}(h:over f a 1 (fun _=>z) i ≠ f i):i=a:=by
 unfold over at h
 split at h
 . omega
 . exact absurd rfl h
theorem zA5{f:Nat->Int}{a:Nat}{z:Int}:over f a 1 (fun _=>z) a=z:=if_pos (by omega)
section
variable {c:za} (g:zaA c) (w:zeJ c)
include g w
theorem zrF{f f':Nat->Int}(hg:zdt c f)(hu:U32 f')(h : ∀ a,cAt c 0<=a->a<cAt c (nC c)->f' a=f a):zdt c f':=by
 refine⟨hu,fun k hk=>zcL (g.chan k hk).1 (fun i hi=>?_) (hg.st k hk),fun k hk j hj=>zcF (g.chan k hk).1 (fun i hi=>?_) (hg.pt k hk j hj)⟩
 . have h1:=zhF c k
   have h2:=zcP c (show k+1<=nC c by omega)
   have h3:=zeL c k
   have h4:=zcd c k
   exact(h _ (by omega) (by omega)).symm
 . have h1:=ziY c hj
   have h2:=zcP c (show k+1<=nC c by omega)
   have h3:=zeL c k
   have h4:=zcd c k
   have h5:=ziZ c k j
   exact(h _ (by omega) (by omega)).symm
omit g w in
theorem zum{q:Nat}(hq:q<nP c):stA c q+5<=cAt c 0:=by
 have h4:pAt c q=16*kF0 c+2+24*q:=rfl
 have h2:cAt c 0=16*kF0 c+2+24*nP c:=rfl
 unfold stA;omega
theorem InvC.frame{f f':Nat->Int}(hI:InvC c f)(hw:zdt c f')(ht : ∀ a,cAt c (nC c)<=a->a<16*tF c (nP c)->f' a=f a)(hs : ∀ q i,q<nP c->i<5->f' (stA c q+i)=f (stA c q+i)):InvC c f':=by
 refine⟨hw,fun p hp a ha=>?_,fun p hp=>?_⟩
 . obtain ⟨h1,h2⟩:=zte g w hp ha
   have h3:tF c 0=(cAt c (nC c)+15) / 16:=rfl
   have h4:tF c 0<=tF c p:=zle c p
   have h5:=ha.1
   rw[ht a (by omega) h2]
   exact hI.tab p hp a ha
 . rw[show f' (stA c p)=f (stA c p)from hs p 0 hp (by omega),hs p 1 hp (by omega),hs p 2 hp (by omega),hs p 3 hp (by omega),hs p 4 hp (by omega)]
   exact hI.st p hp
theorem InvC.state{f:Nat->Int}(hI:InvC c f){p i:Nat}(hp:p<nP c){z:Int}(hz:(i=0/\(z=1 ∨ z=3)) ∨ (i=4/\0<=z/\z<=(P c p).outputs)):InvC c (over f (stA c p+i) 1 fun _=>z):=by
 have hi:i<5:=by omega
 have h1:=zum hp
 obtain ⟨_,_,o1,_⟩:=zg3 g hp
 have hc:cAt c 0<=cAt c (nC c):=zeL c _
 have hz2:0<=z/\z<4294967296:=by omega
 refine⟨zrF g w hI.w (zep hI.w.u fun _ _=>hz2) fun a h2 h3=>zaE (by omega),fun q hq a ha=>?_,fun q hq=>?_⟩
 . have:=zpA ha
   have e:pAt c (nP c)=cAt c 0:=rfl
   rw[zaE (by omega)]
   exact hI.tab q hq a ha
 . have hst:=hI.st q hq
   have hne : ∀ j,j<5->¬ (q=p/\j=i)->over f (stA c p+i) 1 (fun _=>z) (stA c q+j)=f (stA c q+j):=fun j hj hn=>zaE (by
    have h4:pAt c q=16*kF0 c+2+24*q:=rfl
    have h5:pAt c p=16*kF0 c+2+24*p:=rfl
    unfold stA
    intro h
    exact hn ⟨by omega,by omega⟩)
   by_cases e:q=p
   . subst e
     rcases hz with ⟨rfl,hz⟩ | ⟨rfl,hz⟩
     . rw[hne 1 (by omega) (by omega),hne 2 (by omega) (by omega),hne 3 (by omega) (by omega),hne 4 (by omega) (by omega)]
       refine⟨?_,hst.2⟩
       rw[Nat.add_zero,zA5]
       rcases hz with h | h
       . exact .inr (.inl h)
       . exact .inr (.inr h)
     . have h0:over f (stA c q+4) 1 (fun _=>z) (stA c q)=f (stA c q):=hne 0 (by omega) (by omega)
       rw[hne 1 (by omega) (by omega),hne 2 (by omega) (by omega),hne 3 (by omega) (by omega),h0,zA5]
       exact⟨hst.1,hst.2.1,hst.2.2.1,hst.2.2.2.1,hz.2⟩
   . have h0:over f (stA c p+i) 1 (fun _=>z) (stA c q)=f (stA c q):=hne 0 (by omega) (by omega)
     rw[hne 1 (by omega) (by omega),hne 2 (by omega) (by omega),hne 3 (by omega) (by omega),hne 4 (by omega) (by omega),h0]
     exact hst
def InR(c:za)(p i y:Nat):Prop:=i<(P c p).regions.length/\(zh (P c p).regions i).frame<=((y / 16:Nat):Int)/\((y / 16:Nat):Int)<(zh (P c p).regions i).frame+(zh (P c p).regions i).pages
theorem InvC.reg{f:Nat->Int}(hI:InvC c f){p i y:Nat}(hp:p<nP c)(hy:InR c p i y){z:Int}(hz:0<=z/\z<4294967296):InvC c (over f y 1 fun _=>z):=by
 have hf:=zqn g w hp hy.1 hy.2.1 hy.2.2
 have h1:cAt c 0=16*kF0 c+2+24*nP c:=rfl
 have h3:tF c 0=(cAt c (nC c)+15) / 16:=rfl
 have h4:tF c 0<=tF c (nP c):=zle c _
 have h5:cAt c 0<=cAt c (nC c):=zeL c _
 refine hI.frame g w (zrF g w hI.w (zep hI.w.u fun _ _=>hz) fun a h6 h7=>zaE (by omega)) (fun a h6 h7=>zaE (by omega)) fun q i hq hi=>zaE ?_
 have:=zum hq
 have h6:pAt c q=16*kF0 c+2+24*q:=rfl
 unfold stA at this ⊢
 omega
theorem zvu{p i p' i' y:Nat}(hp:p<nP c)(hp':p'<nP c)(h:InR c p i y)(h':InR c p' i' y):p'=p/\i'=i:=by
 have key : ∀ {p i p' i'},p<nP c->p'<nP c->InR c p i y->InR c p' i' y->p'<p ∨ (p'=p/\i'<i)->False:=fun {p i p' i'} hp hp' h h' hl=>by
  have hb:=g.regb p i hp h.1
  simp only[zhp,Bool.and_eq_true,Bool.not_eq_true']at hb
  have h2:=any_f.1 (any_f.1 hb.2 p' (by omega)) i' h'.1
  have hx:=(g.regs p i hp h.1)
  have hx':=(g.regs p' i' hp' h'.1)
  obtain ⟨a1,a2⟩:=hx.ok.pages
  have a3:=hx.frame
  have a4:=hx.fits
  obtain ⟨b1,b2⟩:=hx'.ok.pages
  have b3:=hx'.frame
  have b4:=hx'.fits
  have hf:=g.frames
  unfold Rg at a1 a2 a3 a4 b1 b2 b3 b4
  have:=zAE (a:=(zh (P c p).regions i).frame) (m:=(zh (P c p).regions i).pages) (b:=(zh (P c p').regions i').frame) (o:=(zh (P c p').regions i').pages) (x:=((y / 16:Nat):Int)) (by omega) (by omega) ⟨h.2.1,h.2.2⟩ ⟨h'.2.1,h'.2.2⟩
  unfold zcS Rg at h2
  rw[this]at h2
  have:(decide (p'<p) || decide (i'<i))=true:=by
   rcases hl with h | h
   . simp[h]
   . simp[h.2]
  rw[this]at h2
  cases h2
 rcases Nat.lt_trichotomy p' p with l | l | l
 . exact(key hp hp' h h' (.inl l)).elim
 . subst l
   rcases Nat.lt_trichotomy i' i with l | l | l
   . exact(key hp hp' h h' (.inr ⟨rfl,l⟩)).elim
   . exact⟨rfl,l⟩
   . exact(key hp' hp h' h (.inr ⟨rfl,l⟩)).elim
 . exact(key hp' hp h' h (.inl l)).elim
theorem zDv{p i y:Nat}(hp:p<nP c)(hy:InR c p i y):own c y=⟨1,(p:Int),0⟩:=by
 have hf:=zqn g w hp hy.1 hy.2.1 hy.2.2
 have hn:(zaG c).find? (fun x=>inP x y)=none:=List.find?_eq_none.2 fun x hx hin=>by
  have h1:=(zmd c).in_ x hx
  have h2:=inP_iff.1 hin
  omega
 have hr:zBl c (y / 16)=some p:=by
  unfold zBl
  have hq : ∀ q,q<nP c->((List.range (zaH c q)).any (zhq c (y / 16) q)=true ↔ q=p):=fun q hq=>by
   rw[any_t]
   constructor
   . rintro ⟨k,hk,h⟩
     unfold zhq Rg at h
     simp only[Bool.and_eq_true,decide_eq_true_eq]at h
     exact(zvu g w hp hq hy ⟨hk,h.1,h.2⟩).1
   . rintro rfl
     refine⟨i,hy.1,?_⟩
     unfold zhq Rg
     simp only[Bool.and_eq_true,decide_eq_true_eq]
     exact hy.2
  cases h:(List.range (nP c)).find? fun q=>(List.range (zaH c q)).any (zhq c (y / 16) q)with
  | none=>
   have:=List.find?_eq_none.1 h p (List.mem_range.2 hp)
   exact absurd ((hq p hp).2 rfl) this
  | some q=>
   have h1:=List.mem_range.1 (List.mem_of_find?_eq_some h)
   have h2:(List.range (zaH c q)).any (zhq c (y / 16) q)=true:=List.find?_some (p:=fun q=>(List.range (zaH c q)).any (zhq c (y / 16) q)) h
   rw[(hq q h1).1 h2]
 unfold own
 rw[hn]
 dsimp only
 rw[hr]
theorem zBr{p i y:Nat}(hp:p<nP c)(hy:InR c p i y)(hy2:y<100000):zvT c (p:Int) (y:Int)=some (zh (P c p).regions i).rights:=by
 have h8:=(zcG g hp).few
 have h:=zfc (l:=List.range (P c p).regions.length) (f:=fun i=>zvH c (p:Int) (y:Int) (.l0 (i:Int))) (q:=fun k=>zhq c (y / 16) p k) (g:=fun k=>some (zh (P c p).regions k).rights) (e:=some 0) (fun k hk=>by
  rw[List.length_range]at hk
  rw[List.getElem_range]
  obtain ⟨r1,r2,r3,r4⟩:=zBm g hp hk
  have hkk':k<(zb c.partitions p).regions.length:=hk
  have d4:i64.wrap ((zh (zb c.partitions p).regions k).frame+(zh (zb c.partitions p).regions k).pages)=(Rg c p k).frame+(Rg c p k).pages:=r4
  rw[zsC]
  simp only[zuO,tnC,zn (show p<c.partitions.length from hp),zY hkk',zn hkk',cnT,zcg y (by omega),d4,zi k (show k<4611686018427387904 by omega),zfT,Tree.run]
  rfl) (by
  rw[List.length_range,zsC]
  have hf:decide (((P c p).regions.length:Int)<((zb c.partitions p).regions.length:Int))=false:=z9 (Nat.le_refl _)
  simp only[zuO,tnC,zn (show p<c.partitions.length from hp),hf,cnT,cnF,Tree.run])
 unfold zvT zEH
 refine Eq.trans h ?_
 cases hq:(List.range (P c p).regions.length).find? (fun k=>zhq c (y / 16) p k)with
 | none=>
  have:=List.find?_eq_none.1 hq i (List.mem_range.2 hy.1)
  refine absurd ?_ this
  unfold zhq Rg
  simp only[Bool.and_eq_true,decide_eq_true_eq]
  exact hy.2
 | some k=>
  have h1:=List.mem_range.1 (List.mem_of_find?_eq_some hq)
  have h2:zhq c (y / 16) p k=true:=List.find?_some (p:=fun k=>zhq c (y / 16) p k) hq
  unfold zhq Rg at h2
  simp only[Bool.and_eq_true,decide_eq_true_eq]at h2
  rw[(zvu g w hp hp hy ⟨h1,h2.1,h2.2⟩).2]
theorem zMz{p q:Nat}(hp:p<nP c)(hq:q<zae c p){k:Nat}(hk:(Pt c p q).channel=(k:Int))(hs:(Pt c p q).source=true):zvS c (p:Int) (k:Int) true=some true:=by
 have h8:=g.few.ports p hp
 have h:=zas (n:=zae c p) (f:=fun i=>zvG c (p:Int) (k:Int) true (.l0 (i:Int))) (q:=fun i=>((Pt c p i).channel==(k:Int))&&((Pt c p i).source==true)) (r:=some true) (e:=some false) (fun i hi=>by
  have hi':i<(zb c.partitions p).ports.length:=hi
  rw[zsB]
  simp only[zuN,tnC,zn (show p<c.partitions.length from hp),zY hi',zn hi',cnT,zi i (show i<4611686018427387904 by omega),zfT,Tree.run]
  rfl) (by
  have hf:decide ((zae c p:Int)<((zb c.partitions p).ports.length:Int))=false:=z9 (Nat.le_refl _)
  rw[zsB]
  simp only[zuN,tnC,zn (show p<c.partitions.length from hp),hf,cnT,cnF,Tree.run])
 unfold zvS zEG
 refine Eq.trans h ?_
 have:(List.range (zae c p)).any (fun i=>((Pt c p i).channel==(k:Int))&&((Pt c p i).source==true))=true:=any_t.2 ⟨q,hq,by rw[hk,hs];simp⟩
 rw[this];rfl
end
theorem zx6:((List.range 8).all fun r=>!(bop .andNot .i64 2 (r:Int)==0) || (bop .rem .i64 (bop .quo .i64 (r:Int) 2) 2==1))=true:=by kernel_rfl
theorem zCh{r:Int}(h:0<=r/\r<=7)(hr:bop .andNot .i64 2 r=0):(bop .rem .i64 (bop .quo .i64 r 2) 2==1)=true:=by
 obtain ⟨n,rfl⟩ : ∃ n:Nat,r=(n:Int):=⟨r.toNat,by omega⟩
 have:=List.all_eq_true.1 zx6 n (List.mem_range.2 (by omega))
 rw[hr]at this
 simpa using this
theorem zBw{x:zI}{h:Nat->Int}{m:List Int}(e:(zdF x h m).1=false):(zdF x h m).2=h:=by
 unfold zdF at e ⊢
 split
 . rename_i h2
   rw[if_pos h2]at e
   split
   . rfl
   . rename_i h3
     rw[if_neg h3]at e
     cases e
 . rename_i h2
   rw[if_neg h2]at e
   cases e
theorem zwf{l m:List Int}{h:Nat->Int}{a:Nat} : ∀ n,wrF l m h n a ≠ h a->∃ i,i<n/\a=(zw l i).toNat
 | 0,e=>absurd rfl e
 | n + 1,e=>by
  by_cases hn:a=(zw l n).toNat
  . exact⟨n,by omega,hn⟩
  . obtain ⟨i,hi,ha⟩:=zwf n (fun e2=>e (by
     show over (wrF l m h n) (zw l n).toNat 1 _ a=_
     rw[zaE (by omega)];exact e2))
    exact⟨i,by omega,ha⟩
def zrb(c:za)(p k a:Nat):Prop:=∀ o:zp,o.p=(p:Int)->o.call=(k:Int)->zns c o 0 (a:Int) (own c a)=some true
section
variable {c:za} (g:zaA c) (w:zeJ c) {s:zq} {D:zH} {d:zT} {v:zaf} (hs:zpw c s D d v) {f:Nat->Int} (hI:InvC c f) {p:Nat} (hp:p<nP c)
include g w hs hI hp
omit hs hI hp in
theorem zxF{p i:Nat}(hp:p<nP c)(hi:i<5):own c (stA c p+i)=⟨5,(p:Int),0⟩:=zt4 (ref_mem.2 (.state hp)) (inP_iff.2 (show pAt c p+19<=stA c p+i/\stA c p+i<pAt c p+19+5 by unfold stA;omega))
omit hs hI hp in
theorem zxs{p i k:Nat}(hp:p<nP c)(hi:i<5)(hk:k=0 ∨ k=5 ∨ k=7):zrb c p k (stA c p+i):=fun o h1 h2=>by
 unfold zns
 rw[zxF g w hp hi,h1,h2]
 rcases hk with rfl | rfl | rfl <;> simp only[Tree.run0,Tree.run,beq_self_eq_true,Bool.not_true,cnF,cnT,show(((0:Nat):Int)==0)=true from rfl,show(((5:Nat):Int)==0)=false from rfl,show(((5:Nat):Int)==7)=false from rfl,show(((5:Nat):Int)==5)=true from rfl,show(((7:Nat):Int)==0)=false from rfl,show(((7:Nat):Int)==7)=true from rfl]
omit hI hp in
theorem zoS{p q:Int}{m:List Int}{a:Nat}(h:(zlo c p q m f).2 a ≠ f a):(zlo c p q m f).1=0/\∃ p' q' k:Nat,p=(p':Int)/\p'<nP c/\q'<zae c p'/\(Pt c p' q').channel=(k:Int)/\(Pt c p' q').source=true/\zCA c k a:=by
 unfold zlo at h ⊢
 cases hq:zbN c p q with
 | none=>rw[hq]at h;exact absurd rfl h
 | some x=>
  obtain ⟨p',q',k,rfl,rfl,hp',hq',rfl,hk1,hk⟩:=zbB g w hs.duc hq
  rw[hq]at h
  dsimp only at h ⊢
  cases hsrc:(Pt c p' q').source with
  | false=>rw[hsrc]at h;exact absurd rfl h
  | true=>
   rw[hsrc]at h
   rw[hk1,tnC]at h ⊢
   dsimp only [cnT]at h ⊢
   split at h
   . exact absurd rfl h
   . rename_i hm
     rw[if_neg hm]
     unfold zBy at h ⊢
     dsimp only at h ⊢
     cases hr:(zdF (Ch c k) (stW c f k) m).1 with
     | false=>
      rw[zBw hr]at h
      exact absurd (congrFun (zms f _ _) a) h
     | true=>
      refine⟨rfl,p',q',k,rfl,hp',hq',hk1,hsrc,hk,?_⟩
      by_cases hc:sAt c k<=a/\a<sAt c k+stg (Ch c k)
      . exact hc
      . exact absurd (zaE hc) h
omit hI hp in
theorem zpu{p q:Int}{a:Nat}(h:zig c p q f a ≠ f a) : ∃ p' q' k j:Nat,p=(p':Int)/\p'<nP c/\zCz c k j a/\z7 (dl c k) j=⟨(p':Int),(q':Int)⟩:=by
 unfold zig at h
 cases hq:zbN c p q with
 | none=>rw[hq]at h;exact absurd rfl h
 | some x=>
  obtain ⟨p',q',k,rfl,rfl,hp',hq',rfl,hk1,hk⟩:=zbB g w hs.duc hq
  rw[hq]at h
  dsimp only at h
  cases hsrc:(Pt c p' q').source with
  | true=>rw[hsrc]at h;exact absurd rfl h
  | false=>
   rw[hsrc,hk1,tnC]at h
   dsimp only [cnF]at h
   split at h
   . obtain ⟨j1,j2,_⟩:=zw5 g w hs.duc hk (ze5 hp' hq' hk1 hsrc)
     refine⟨p',q',k,_,rfl,hp',⟨hk,j1,?_⟩,j2⟩
     by_cases hc:psC c k (zdz c k p' q')<=a/\a<psC c k (zdz c k p' q')+prt (Ch c k)
     . exact hc
     . exact absurd (zaE hc) h
   . exact absurd rfl h
omit g w hs hI hp in
theorem zu5{k a:Nat}(h:zCA c k a):cAt c 0<=a/\a<cAt c (nC c):=by
 obtain ⟨h0,h1,h2⟩:=h
 have h3:=zhF c k
 have h4:=zcP c (show k+1<=nC c by omega)
 have h5:=zeL c k
 have h6:=zcd c k
 omega
omit g w hs hI hp in
theorem zu4{k j a:Nat}(h:zCz c k j a):cAt c 0<=a/\a<cAt c (nC c):=by
 obtain ⟨h0,hj,h1,h2⟩:=h
 have h3:=ziY c hj
 have h4:=zcP c (show k+1<=nC c by omega)
 have h5:=zeL c k
 have h6:=zcd c k
 have h7:=ziZ c k j
 omega
omit hs hp in
theorem InvC.chan{f':Nat->Int}(hw:zdt c f')(h : ∀ a,f' a ≠ f a->cAt c 0<=a/\a<cAt c (nC c)):InvC c f':=by
 refine hI.frame g w hw (fun a h1 _=>?_) fun q i hq hi=>?_
 . by_cases e:f' a=f a
   . exact e
   . have:=h a e;omega
 . by_cases e:f' (stA c q+i)=f (stA c q+i)
   . exact e
   . have:=h _ e
     have:=zum hq
     omega
theorem zxO (x:zB):InvC c (zfR c p x f).2/\∀ a,(zfR c p x f).2 a ≠ f a->(zfR c p x f).1=0/\zrb c p 1 a:=by
 unfold zfR
 by_cases h0:(zcV c p x.regs.e1).2=0
 . rw [if_pos h0]
   by_cases h3:x.regs.e3=0 ∨ x.regs.e3>(zcV c p x.regs.e1).1
   . rw[if_pos h3];exact⟨hI,fun a h=>absurd rfl h⟩
   . rw [if_neg h3]
     cases zfr c p 1 x.regs.e2 x.regs.e3.toNat with
     | none=>exact⟨hI,fun a h=>absurd rfl h⟩
     | some l=>
      dsimp only
      obtain ⟨_,hgw⟩:=zBx g w hs.duc hI.w p x.regs.e1 (zEV hI.w.u l)
      refine⟨InvC.chan g w hI hgw fun a h=>?_,fun a h=>?_⟩
      . obtain ⟨_,_,_,_,_,_,_,_,_,hst⟩:=zoS g w hs h
        exact zu5 hst
      . obtain ⟨t0,p',q',k,hpp,hp',hq',hk1,hsrc,hst⟩:=zoS g w hs h
        refine⟨t0,fun o h1 h2=>?_⟩
        have e:p'=p:=by omega
        subst e
        have hh:=zMz g w hp' hq' hk1 hsrc
        unfold zns
        rw[zxE hst.1 hst.2,h1,h2]
        simp only[Tree.run0,Tree.run,beq_self_eq_true,Bool.not_true,cnF,cnT,show(((1:Nat):Int)==0)=false from rfl,show(((1:Nat):Int)==7)=false from rfl,show(((1:Nat):Int)==5)=false from rfl,show(((1:Nat):Int)==1)=true from rfl,hh,Option.bind_some]
 . rw[if_neg h0];exact⟨hI,fun a h=>absurd rfl h⟩
theorem zxJ(x:zB):InvC c (ze2 c p x f).2/\∀ a,a<nW c->(ze2 c p x f).2 a ≠ f a->(ze2 c p x f).1.1=0/\zrb c p 2 a:=by
 unfold ze2
 by_cases h0:(zde c p x.regs.e1 f).1=0
 . rw [if_pos h0]
   cases hl:zfr c p 2 x.regs.e2 (zde c p x.regs.e1 f).2.1.length with
   | none=>exact⟨hI,fun a _ h=>absurd rfl h⟩
   | some l=>
    dsimp only
    obtain ⟨_,hgw⟩:=zCb g w hs.duc hI.w p x.regs.e1
    obtain ⟨_,_,hmu⟩:=zqa g w hs hI p x.regs.e1
    obtain ⟨l1,l2⟩:=zit g w hp hl
    have hreg : ∀ i,i<l.length->∃ y j,zw l i=((y:Nat):Int)/\y<nW c/\InR c p j y/\bop .andNot .i64 2 (zh (P c p).regions j).rights=0:=fun i hi=>by
     have hat:zw l i=l[i]:=by simp[zw,List.getD,hi]
     obtain ⟨b,hb⟩:=l2 l[i] (List.getElem_mem _)
     obtain ⟨y,j,hy,hy2,hj,h1,h2,h3⟩:=ztj g w hp hb
     exact⟨y,j,hat.trans hy,hy2,⟨hj,h1,h2⟩,h3⟩
    have hIt:InvC c (zig c p x.regs.e1 f):=InvC.chan g w hI hgw fun a h=>by
     obtain ⟨_,_,_,_,_,_,hpt,_⟩:=zpu g w hs h
     exact zu4 hpt
    have hIw : ∀ n,n<=l.length->InvC c (wrF l (zde c p x.regs.e1 f).2.1 (zig c p x.regs.e1 f) n):=by
     intro n
     induction n with
     | zero=>exact fun _=>hIt
     | succ n ih=>
      intro hn
      obtain ⟨y,j,hy,_,hr,_⟩:=hreg n (by omega)
      show InvC c (over _ (zw l n).toNat 1 _)
      rw[hy,tnC]
      exact(ih (by omega)).reg g w hp hr (hmu n)
    refine⟨hIw _ (Nat.le_refl _),fun a haN h=>⟨rfl,?_⟩⟩
    by_cases hw:wrF l (zde c p x.regs.e1 f).2.1 (zig c p x.regs.e1 f) l.length a=zig c p x.regs.e1 f a
    . rw[hw]at h
      obtain ⟨p',q',k,j,hpp,hp',hpt,hjd⟩:=zpu g w hs h
      have e:p'=p:=by omega
      subst e
      intro o h1 h2
      unfold zns
      rw[zA7 hpt.1 hpt.2.1 hpt.2.2,hjd,h1,h2]
      simp only[Tree.run0,Tree.run,beq_self_eq_true,Bool.not_true,cnF,cnT,show(((2:Nat):Int)==0)=false from rfl,show(((2:Nat):Int)==7)=false from rfl,show(((2:Nat):Int)==5)=false from rfl,show(((2:Nat):Int)==1)=false from rfl,show(((2:Nat):Int)==2)=true from rfl,show((8:Int)==1)=false from rfl]
    . obtain ⟨i,hi,ha⟩:=zwf _ hw
      obtain ⟨y,j,hy,hy2,hr,hbit⟩:=hreg i hi
      rw[hy,tnC]at ha
      subst ha
      obtain ⟨r1,r2,_⟩:=zh0 g hp j hr.1
      have hN:=(zih g w).2
      intro o h1 h2
      unfold zns
      rw[zDv g w hp hr,h1,h2]
      simp only[Tree.run0,Tree.run,beq_self_eq_true,Bool.not_true,cnF,cnT,show(((2:Nat):Int)==0)=false from rfl,show(((2:Nat):Int)==7)=false from rfl,show(((2:Nat):Int)==5)=false from rfl,show(((2:Nat):Int)==1)=false from rfl,show(((2:Nat):Int)==2)=true from rfl,zBr g w hp hr (by omega),Option.bind_some,zCh ⟨r1,r2⟩ hbit]
 . rw[if_neg h0];exact⟨hI,fun a _ h=>absurd rfl h⟩
theorem zpZ(e:Int){k:Nat}(hk:k<8)(x:zB):InvC c (cDo c d.feeds p e k x f).2/\(0<=(cDo c d.feeds p e k x f).1.1/\(cDo c d.feeds p e k x f).1.1<=7)/\∀ a,a<nW c->(cDo c d.feeds p e k x f).2 a ≠ f a->(cDo c d.feeds p e k x f).1.1=0/\zrb c p k a:=by
 have hsame : ∀ t:Int,(0<=t/\t<=7)->InvC c f/\(0<=t/\t<=7)/\∀ a,a<nW c->f a ≠ f a->t=0/\zrb c p k a:=fun t ht=>⟨hI,ht,fun a _ h=>absurd rfl h⟩
 have hst : ∀ (i:Nat) (z:Int),(i=0/\(z=1 ∨ z=3)) ∨ (i=4/\0<=z/\z<=(P c p).outputs)->(k=0 ∨ k=5 ∨ k=7)->InvC c (over f (stA c p+i) 1 fun _=>z)/\((0:Int)<=0/\(0:Int)<=7)/\∀ a,a<nW c->over f (stA c p+i) 1 (fun _=>z) a ≠ f a->(0:Int)=0/\zrb c p k a:=fun i z hz hk=>⟨hI.state g w hp hz,rgc 0 7 rfl,fun a _ h=>⟨rfl,by rw[zDu h];exact zxs g w hp (by omega) hk⟩⟩
 rcases (show k=0 ∨ k=1 ∨ k=2 ∨ k=3 ∨ k=4 ∨ k=5 ∨ k=6 ∨ k=7 by omega)with rfl | rfl | rfl | rfl | rfl | rfl | rfl | rfl
 . exact hst 0 1 (.inl ⟨rfl,.inl rfl⟩) (.inl rfl)
 . obtain ⟨h1,h2⟩:=zxO g w hs hI hp x
   refine⟨h1,?_,fun a _ h=>h2 a h⟩
   show 0<=(zfR c p x f).1/\(zfR c p x f).1<=7
   obtain ⟨r1,r2⟩:=zsd g w hs x.regs.e1 p
   unfold zfR
   split
   . split
     . exact rgc 3 7 rfl
     . split
       . exact rgc 4 7 rfl
       . rename_i l _
         obtain ⟨t1,t2⟩:=zvz g w hs x.regs.e1 p (l.map fun z=>f z.toNat) f
         exact⟨t1,by omega⟩
   . dsimp only;omega
 . obtain ⟨h1,h2⟩:=zxJ g w hs hI hp x
   refine⟨h1,?_,h2⟩
   show 0<=(ze2 c p x f).1.1/\(ze2 c p x f).1.1<=7
   obtain ⟨r1,_⟩:=zqa g w hs hI p x.regs.e1
   unfold ze2
   split
   . split
     . exact rgc 4 7 rfl
     . exact rgc 0 7 rfl
   . dsimp only;omega
 . obtain ⟨t1,t2⟩:=zv4 g w hs hI hp x.regs.e1
   exact hsame (zkv c p x.regs.e1 f).1 ⟨t1,by omega⟩
 . exact hsame _ (zAl g w hs hI hp _ _ _ _)
 . obtain ⟨u1,u2⟩:=hI.w.u (stA c p+4)
   show InvC c (ze1 c p f).2/\(0<=(ze1 c p f).1/\(ze1 c p f).1<=7)/\∀ a,a<nW c->(ze1 c p f).2 a ≠ f a->(ze1 c p f).1=0/\zrb c p 5 a
   unfold ze1
   split
   . exact hsame 5 (rgc 5 7 rfl)
   . rename_i h
     exact hst 4 _ (.inr ⟨rfl,by omega,by omega⟩) (.inr (.inl rfl))
 . exact hsame 0 (rgc 0 7 rfl)
 . exact hst 0 3 (.inl ⟨rfl,.inr rfl⟩) (.inr (.inr rfl))
omit hp in
theorem znE:InvC c (zbd c f (nC c)):=InvC.chan g w hI (zhm g w hs.duc hI.w (nC c) (Nat.le_refl _)).1 fun a h=>by
 by_cases h1 : ∃ k,zCA c k a
 . obtain ⟨k,hk⟩:=h1;exact zu5 hk
 . by_cases h2 : ∃ k j,zCz c k j a
   . obtain ⟨k,j,hk⟩:=h2;exact zu4 hk
   . exact absurd (zuo g w hs.duc hI.w (fun k hk=>h1 ⟨k,hk⟩) (fun k j hk=>h2 ⟨k,j,hk⟩) (nC c) (Nat.le_refl _)) h
end
theorem zdB{σ R:Type}{n:Nat}{f:Nat->σ->Option R}(I:Nat->σ->Prop)(hs : ∀ i,i<n->∀ s,I i s->∃ s',I (i+1) s'/\f i s=f (i+1) s') : ∀ s,I 0 s->∃ s',I n s'/\f 0 s=f n s':=by
 intro s h0
 have : ∀ k,k<=n->∃ s',I k s'/\f 0 s=f k s':=by
  intro k
  induction k with
  | zero=>exact fun _=>⟨s,h0,rfl⟩
  | succ k ih=>
   intro hk
   obtain ⟨s1,h1,e1⟩:=ih (by omega)
   obtain ⟨s2,h2,e2⟩:=hs k (by omega) s1 h1
   exact⟨s2,h2,e1.trans e2⟩
 exact this n (Nat.le_refl n)
theorem zy3{xs:List (List zam)}{i:Nat}(h:i<xs.length):zD xs i=xs[i]:=by simp[zD,List.getD,h]
theorem zy4{xs:List zf}{i:Nat}(h:i<xs.length):zb xs i=xs[i]:=by simp[zb,List.getD,h]
theorem zrG{c:za}(hc:zco c):zsK c=some c:=by
 have hB:B47=140737488351232:=rfl
 have h1:=hc.cores
 have h2:=hc.parts
 have h3:=hc.chans
 have l0:=zK (n:=c.cores.length) (f:=fun i (xs:List (List zam))=>zmW c (.l0 (i:Int) xs)) (S:=fun i=>c.cores.take i) (fun i hi=>by
  have hci:=hc.core i hi
  rw[zi5]
  simp only[zn5,zY hi,cnT,zn hi,tnC,List.nil_append,List.length_nil,List.length_singleton,List.length_take,za0 (show(0+(zD c.cores i).length)*24<=140737488355328 by omega),za0 (show(min i c.cores.length+1)*24<=140737488355328 by omega),zhl c.cores hi (zy3 hi),zi i (show i<4611686018427387904 by omega),Tree.run,Option.bind_some])
 have l4:=zK (n:=c.partitions.length) (f:=fun i (xs:List zf)=>zmW c (.l4 (i:Int) c.cores xs)) (S:=fun i=>c.partitions.take i) (fun i hi=>by
  have hr:=hc.regions i hi
  have hp:=hc.ports i hi
  rw[zi5]
  simp only[zn5,zY hi,cnT,zn hi,tnC,List.nil_append,List.length_nil,List.length_singleton,List.length_take,za0 (show(0+(zb c.partitions i).regions.length)*32<=140737488355328 by omega),za0 (show(0+(zb c.partitions i).ports.length)*16<=140737488355328 by omega),za0 (show(min i c.partitions.length+1)*104<=140737488355328 by omega),zhl c.partitions hi (zy4 hi),zi i (show i<4611686018427387904 by omega),Tree.run,Option.bind_some])
 unfold zsK zEi
 dsimp only [Tree.run0,Tree.run]
 refine(show zmW c (.l0 0 [])=_ from l0).trans ?_
 rw[zi5]
 simp only[zn5,z9 (Nat.le_refl _),cnF,List.take_length,Tree.run,Option.bind_some]
 refine(show zmW c (.l4 0 c.cores [])=_ from l4).trans ?_
 rw[zi5]
 simp only[zn5,z9 (Nat.le_refl _),cnF,List.take_length,List.nil_append,List.length_nil,za0 (show(0+c.channels.length)*24<=140737488355328 by omega),cnT,id,Tree.run,Option.bind_some]
theorem zJg{p:zf}(hr:p.regions.length<4611686018427387904)(hp:p.ports.length<4611686018427387904):zsN p p=some true:=by
 have l0:=zK (n:=p.regions.length) (f:=fun i (_:Unit)=>zmZ p p (.l0 (i:Int))) (S:=fun _=>()) (fun i hi=>by
  rw[zjc]
  simp only[zn7,zY hi,cnT,zn hi,beq_self_eq_true,Bool.and_self,Bool.not_true,cnF,zi i (show i<4611686018427387904 by omega),Tree.run,Option.bind_some])
 have l4:=zK (n:=p.ports.length) (f:=fun i (_:Unit)=>zmZ p p (.l4 (i:Int))) (S:=fun _=>()) (fun i hi=>by
  rw[zjc]
  simp only[zn7,zY hi,cnT,zn hi,beq_self_eq_true,Bool.and_self,Bool.not_true,cnF,zi i (show i<4611686018427387904 by omega),Tree.run,Option.bind_some])
 unfold zsN zEx
 simp only[Tree.run,Option.bind_some,beq_self_eq_true,Bool.not_true,cnF]
 refine(show zmZ p p (.l0 0)=_ from l0).trans ?_
 rw[zjc]
 simp only[zn7,z9 (Nat.le_refl _),cnF,Tree.run,Option.bind_some]
 refine(show zmZ p p (.l4 0)=_ from l4).trans ?_
 rw[zjc]
 simp only[zn7,z9 (Nat.le_refl _),cnF,id,Tree.run,Option.bind_some]
theorem zdw{xs:List (List zam)}{i j:Nat}{y:List zam}(h:i<xs.length):zD (List.set xs i y) j=if i=j then y else zD xs j:=by
 by_cases e:i=j
 . subst e;rw[if_pos rfl];simp[zD,List.getD,h]
 . rw[if_neg e];simp[zD,List.getD,List.getElem?_set,e]
theorem zCN{xs:List zam}{i j:Nat}{y:zam}(e:i ≠ j):zbz (List.set xs i y) j=zbz xs j:=by simp[zbz,List.getD,List.getElem?_set,e]
theorem zbV{xs:List zf}{i j:Nat}{y:zf}(h:i<xs.length):zb (List.set xs i y) j=if i=j then y else zb xs j:=by
 by_cases e:i=j
 . subst e;rw[if_pos rfl];simp[zb,List.getD,h]
 . rw[if_neg e];simp[zb,List.getD,List.getElem?_set,e]
theorem zy1{xs:List zI}{i j:Nat}{y:zI}(e:i ≠ j):zu (List.set xs i y) j=zu xs j:=by simp[zu,List.getD,List.getElem?_set,e]
theorem zmD{c:za}(hc:zco c)(fr mj kn rm:Int) : ∃ a b d,zlb fr mj kn rm c c.cores c.partitions c.channels=some (true,a,b,d):=by
 have hB:B47=140737488351232:=rfl
 have h1:=hc.cores
 have h2:=hc.parts
 have h3:=hc.chans
 -- cores
 obtain ⟨xc,⟨ic,_⟩,l0⟩:=zdB (n:=c.cores.length) (f:=fun i (xs:List (List zam))=>zcI fr mj kn rm c c.cores c.partitions c.channels (.l0 true (i:Int) xs)) (fun i xs=>xs.length=c.cores.length/\∀ j,i<=j->zD xs j=zD c.cores j) (fun i hi xs ⟨hl,hx⟩=>by
  have hci:=hc.core i hi
  have hil:i<xs.length:=by omega
  have inner:=zdB (n:=(zD c.cores i).length) (f:=fun k (ys:List (List zam))=>zcI fr mj kn rm c c.cores c.partitions c.channels (.l4 true (i:Int) (k:Int) ys)) (fun k ys=>ys.length=c.cores.length/\(∀ j,i+1<=j->zD ys j=zD c.cores j)/\(zD ys i).length=(zD c.cores i).length/\∀ m,k<=m->zbz (zD ys i) m=zbz (zD c.cores i) m) (fun k hk ys ⟨y1,y2,y3,y4⟩=>by
   have hy:i<ys.length:=by omega
   have hk3:k<(zD ys i).length:=by omega
   have s1:zD (List.set ys i (zD ys i)) i=zD ys i:=by rw[zdw hy,if_pos rfl]
   refine⟨List.set (List.set ys i (zD ys i)) i (List.set (zD ys i) k ⟨-1,1,0⟩),⟨by simp[y1],fun j hj=>?_,?_,fun m hm=>?_⟩,?_⟩
   . rw[zdw (by simpa using hy),if_neg (by omega),zdw hy,if_neg (by omega)];exact y2 j hj
   . rw[zdw (by simpa using hy),if_pos rfl,List.length_set];exact y3
   . rw[zdw (by simpa using hy),if_pos rfl,zCN (by omega)];exact y4 m (by omega)
   . rw[zbX]
     simp only[zeD,cnT,zn hi,tnC,zY hk,zn hy,zn hk3,zn hk,s1,y4 k (Nat.le_refl _),beq_self_eq_true,Bool.and_self,zi k (show k<4611686018427387904 by omega),Tree.run,Option.bind_some])
  obtain ⟨ys,⟨y1,y2,y3,y4⟩,e1⟩:=inner (List.set xs i (zD xs i)) ⟨by simp[hl],fun j hj=>by rw[zdw hil,if_neg (by omega)];exact hx j (by omega),by rw[zdw hil,if_pos rfl,hx i (Nat.le_refl _)],fun m _=>by rw[zdw hil,if_pos rfl,hx i (Nat.le_refl _)]⟩
  refine⟨ys,⟨y1,y2⟩,?_⟩
  have st:zcI fr mj kn rm c c.cores c.partitions c.channels (.l0 true (i:Int) xs)=zcI fr mj kn rm c c.cores c.partitions c.channels (.l4 true (i:Int) 0 (List.set xs i (zD xs i))):=by
   rw[zbX]
   simp only[zeD,cnT,zY hi,zn hil,zn hi,tnC,hx i (Nat.le_refl _),beq_self_eq_true,Tree.run,Option.bind_some]
  have en:zcI fr mj kn rm c c.cores c.partitions c.channels (.l4 true (i:Int) ((zD c.cores i).length:Int) ys)=zcI fr mj kn rm c c.cores c.partitions c.channels (.l0 true ((i+1:Nat):Int) ys):=by
   rw[zbX]
   simp only[zeD,cnT,zn hi,tnC,z9 (Nat.le_refl _),cnF,zi i (show i<4611686018427387904 by omega),Tree.run,Option.bind_some]
  exact st.trans (e1.trans en)) c.cores ⟨rfl,fun _ _=>rfl⟩
 -- partitions
 obtain ⟨xp,_,l8⟩:=zdB (n:=c.partitions.length) (f:=fun i (xs:List zf)=>zcI fr mj kn rm c c.cores c.partitions c.channels (.l8 true (i:Int) xc xs)) (fun i xs=>xs.length=c.partitions.length/\∀ j,i<=j->zb xs j=zb c.partitions j) (fun i hi xs ⟨hl,hx⟩=>by
  have hr:=hc.regions i hi
  have hp:=hc.ports i hi
  have hil:i<xs.length:=by omega
  have k1':zsN (zb c.partitions i) (zb c.partitions i)=some true:=zJg (p:=zb c.partitions i) (by omega) (by omega)
  let J:List zf->Prop:=fun ys=>ys.length=c.partitions.length/\(∀ j,i+1<=j->zb ys j=zb c.partitions j)/\(zb ys i).regions.length=(zb c.partitions i).regions.length/\(zb ys i).ports.length=(zb c.partitions i).ports.length
  have m12:=zdB (n:=(zb c.partitions i).regions.length) (f:=fun k (ys:List zf)=>zcI fr mj kn rm c c.cores c.partitions c.channels (.l12 true (i:Int) (k:Int) xc ys)) (fun k ys=>J ys) (fun k hk ys ⟨y1,y2,y3,y4⟩=>by
   have hy:i<ys.length:=by omega
   have hk3:k<(zb ys i).regions.length:=by omega
   refine⟨_,⟨?_,fun j hj=>?_,?_,?_⟩,by
    rw[zbX]
    simp only[zeD,cnT,zn hi,tnC,zY hk,zn hy,zn hk3,zi k (show k<4611686018427387904 by omega),Tree.run,Option.bind_some]
    rfl⟩
   . simp[y1]
   . rw[zbV hy,if_neg (by omega)];exact y2 j hj
   . rw[zbV hy,if_pos rfl,List.length_set];exact y3
   . rw[zbV hy,if_pos rfl];exact y4)
  have m16:=zdB (n:=(zb c.partitions i).ports.length) (f:=fun k (ys:List zf)=>zcI fr mj kn rm c c.cores c.partitions c.channels (.l16 true (i:Int) (k:Int) xc ys)) (fun k ys=>J ys) (fun k hk ys ⟨y1,y2,y3,y4⟩=>by
   have hy:i<ys.length:=by omega
   have hk3:k<(zb ys i).ports.length:=by omega
   refine⟨_,⟨?_,fun j hj=>?_,?_,?_⟩,by
    rw[zbX]
    simp only[zeD,cnT,zn hi,tnC,zY hk,zn hy,zn hk3,zi k (show k<4611686018427387904 by omega),Tree.run,Option.bind_some]
    rfl⟩
   . simp[y1]
   . rw[zbV hy,if_neg (by omega)];exact y2 j hj
   . rw[zbV hy,if_pos rfl];exact y3
   . rw[zbV hy,if_pos rfl,List.length_set];exact y4)
  have e8 : ∃ ys,J ys/\zcI fr mj kn rm c c.cores c.partitions c.channels (.l8 true (i:Int) xc xs)=zcI fr mj kn rm c c.cores c.partitions c.channels (.l12 true (i:Int) 0 xc ys):=by
   refine⟨_,⟨?_,fun j hj=>?_,?_,?_⟩,by
    rw[zbX]
    simp only[zeD,cnT,zY hi,zn hil,zn hi,tnC,hx i (Nat.le_refl _),k1',Tree.run,Option.bind_some]
    rfl⟩
   . simp[hl]
   . rw[zbV (by simpa using hil),if_neg (by omega),zbV hil,if_neg (by omega)];exact hx j (by omega)
   . rw[zbV (by simpa using hil),if_pos rfl]
   . rw[zbV (by simpa using hil),if_pos rfl,zbV hil,if_pos rfl]
  obtain ⟨ya,ja,ea⟩:=e8
  obtain ⟨yb,jb,eb⟩:=m12 ya ja
  have ec:zcI fr mj kn rm c c.cores c.partitions c.channels (.l12 true (i:Int) ((zb c.partitions i).regions.length:Int) xc yb)=zcI fr mj kn rm c c.cores c.partitions c.channels (.l16 true (i:Int) 0 xc yb):=by
   rw[zbX]
   simp only[zeD,cnT,zn hi,tnC,z9 (Nat.le_refl _),cnF,Tree.run,Option.bind_some]
  obtain ⟨yd,⟨j1,j2,j3,j4⟩,ed⟩:=m16 yb jb
  have hy:i<yd.length:=by omega
  refine⟨_,⟨?_,fun j hj=>?_⟩,ea.trans (eb.trans (ec.trans (ed.trans (by
   rw[zbX]
   simp only[zeD,cnT,zn hi,tnC,z9 (Nat.le_refl _),cnF,zn hy,zi i (show i<4611686018427387904 by omega),Tree.run,Option.bind_some]
   rfl))))⟩
  . simp[j1]
  . rw[zbV hy,if_neg (by omega)];exact j2 j hj) c.partitions ⟨rfl,fun _ _=>rfl⟩
 -- channels
 obtain ⟨xh,_,l20⟩:=zdB (n:=c.channels.length) (f:=fun i (xs:List zI)=>zcI fr mj kn rm c c.cores c.partitions c.channels (.l20 true (i:Int) xc xp xs)) (fun i xs=>xs.length=c.channels.length/\∀ j,i<=j->zu xs j=zu c.channels j) (fun i hi xs ⟨hl,hx⟩=>by
  have hil:i<xs.length:=by omega
  refine⟨List.set xs i ⟨i64.wrap (3-(zu c.channels i).kind),1,1⟩,⟨by simp[hl],fun j hj=>by rw[zy1 (by omega)];exact hx j (by omega)⟩,?_⟩
  rw[zbX]
  simp only[zeD,cnT,zY hi,zn hil,zn hi,tnC,hx i (Nat.le_refl _),beq_self_eq_true,Bool.and_self,zi i (show i<4611686018427387904 by omega),Tree.run,Option.bind_some]) c.channels ⟨rfl,fun _ _=>rfl⟩
 refine⟨xc,xp,xh,?_⟩
 unfold zlb zEk
 simp only[Tree.run,Option.bind_some,beq_self_eq_true,cnT]
 refine(show zcI fr mj kn rm c c.cores c.partitions c.channels (.l0 true 0 c.cores)=_ from l0).trans ?_
 rw[zbX]
 simp only[zeD,cnT,z9 (Nat.le_refl _),cnF,Tree.run,Option.bind_some]
 refine(show zcI fr mj kn rm c c.cores c.partitions c.channels (.l8 true 0 xc c.partitions)=_ from l8).trans ?_
 rw[zbX]
 simp only[zeD,cnT,z9 (Nat.le_refl _),cnF,Tree.run,Option.bind_some]
 refine(show zcI fr mj kn rm c c.cores c.partitions c.channels (.l20 true 0 xc xp c.channels)=_ from l20).trans ?_
 rw[zbX]
 simp only[zeD,cnT,z9 (Nat.le_refl _),cnF,id,Tree.run,Option.bind_some]
theorem zbm{c:za}(hc:zco c)(hv:zbI c=true):zaA c/\zeJ c:=by
 unfold zbI at hv
 rw[Bool.and_eq_true]at hv
 have g:=zp8 hc hv.1
 exact⟨g,zDg g hv.2⟩
noncomputable def zA6(c:za)(i:Nat):zf:=⟨ByteArray.mk #[],0,0,0,0,0,[],(P c i).ports⟩
noncomputable def zp0(c:za):zH:=⟨⟨c.frames,0,0,0,[],(List.range (nP c)).map (zA6 c),c.channels⟩,lay c⟩
theorem zzu(c:za):zq6 c (zp0 c):=⟨rfl,rfl,by simp[zp0],fun p hp=>by
 have:zb (zp0 c).c.partitions p=zA6 c p:=by simp[zp0,zb,List.getD,hp]
 rw[this];rfl,rfl⟩
theorem ztT{c:za}(g:zaA c)(w:zeJ c){p:Nat}(hp:p<nP c):zm (lay c).partitions p=full c p/\(lay c).partitions.length=nP c:=⟨(zqh hp).trans (if_pos hp),ziX c _⟩
theorem zMK{c:za}(hc:zco c)(hv:zbI c=true):znv c=some (zp0 c,0):=by
 have hB:B47=140737488351232:=rfl
 have h2:=hc.parts
 have h3:=hc.chans
 obtain ⟨g,w⟩:=zbm hc hv
 obtain ⟨r,hr,hr2⟩:=zjv hc
 rw[hv]at hr2
 have k1':zdI c=some r:=hr
 have l1':zcZ c=some (lay c,0):=zrO g w.kernel
 have l0:=zK (n:=nP c) (f:=fun i (xs:List zf)=>zsp c (.l0 (lay c,0) (i:Int) xs)) (S:=fun i=>(List.range i).map (zA6 c)) (fun i hi=>by
  have hi':i<c.partitions.length:=hi
  have hp:=hc.ports i hi'
  have e:(List.range (i+1)).map (zA6 c)=(List.range i).map (zA6 c)++[⟨ByteArray.mk #[],0,0,0,0,0,[],(zb c.partitions i).ports⟩]:=by rw[List.range_succ,List.map_append];rfl
  rw[zsq]
  simp only[zuH,zY hi',cnT,zn hi',tnC,List.nil_append,List.length_nil,List.length_singleton,List.length_map,List.length_range,za0 (show(0+(zb c.partitions i).ports.length)*16<=140737488355328 by omega),za0 (show(i+1)*104<=140737488355328 by omega),zi i (show i<4611686018427387904 by omega),e,Tree.run])
 unfold znv zEs
 simp only[Tree.run,Option.bind_some,k1',hr2,l1',Bool.not_true,cnT,cnF,beq_self_eq_true,List.length_nil,za0 (show(0+c.channels.length)*24<=140737488355328 by omega)]
 refine(show zsp c (.l0 (lay c,0) 0 [])=_ from l0).trans ?_
 have hf:decide ((nP c:Int)<(c.partitions.length:Int))=false:=z9 (Nat.le_refl _)
 rw[zsq]
 simp only[zuH,hf,cnF,List.nil_append,Tree.run]
 rfl
noncomputable def zCg(c:za)(i:Nat):zX:=⟨full c i,u32.wrap (P c i).entry,u32.wrap (P c i).restarts,u32.wrap (P c i).outputs,⟨(),()⟩⟩
noncomputable def zur(c:za):zaf:=⟨c.frames,(List.range (nP c)).map (zCg c)⟩
theorem zJx{c:za}(g:zaA c):zti c (zur c):=by
 have hat : ∀ p,p<nP c->zaB (zur c).wards p=zCg c p:=fun p hp=>by simp[zur,zaB,List.getD,hp]
 refine⟨rfl,by simp[zur],fun p hp=>by rw[hat p hp];rfl,fun p hp=>?_,fun p hp=>?_⟩
 . rw[hat p hp];exact(zq0 _).1
 . rw[hat p hp]
   obtain ⟨_,_,o1,_⟩:=zg3 g hp
   exact zbQ (by omega) (by omega)
theorem zAj{c:za}(hc:zco c)(hv:zbI c=true):zgM c=some (zur c,0):=by
 obtain ⟨g,w⟩:=zbm hc hv
 have hP:nP c<=8:=g.few.parts
 obtain ⟨r,hr,hr2⟩:=zjv hc
 rw[hv]at hr2
 have k1':zdI c=some r:=hr
 have l1':zcZ c=some (lay c,0):=zrO g w.kernel
 have l0:=zK (n:=nP c) (f:=fun i (xs:Nat × List zX)=>zsr c (.l0 (lay c,0) (i:Int) xs.1 xs.2)) (S:=fun i=>(i,(List.range i).map (zCg c))) (fun i hi=>by
  have hi':i<c.partitions.length:=hi
  obtain ⟨p1,p2⟩:=ztT g w hi
  have e:(List.range (i+1)).map (zCg c)=(List.range i).map (zCg c)++[(⟨full c i,u32.wrap (zb c.partitions i).entry,u32.wrap (zb c.partitions i).restarts,u32.wrap (zb c.partitions i).outputs,⟨(),()⟩⟩:zX)]:=by rw[List.range_succ,List.map_append];rfl
  have em:Nat.max (i+1) (Nat.max i 0)=i+1:=by
   rw[show Nat.max i 0=i from Nat.max_zero i]
   exact Nat.max_eq_left (by omega)
  rw[zss]
  simp only[zuI,zY hi',cnT,zn hi',tnC,p1,p2,zn hi,show Nat.ble i i=true from Nat.ble_eq_true_of_le (Nat.le_refl _),Bool.and_self,List.length_singleton,List.length_map,List.length_range,za0 (show(i+1)*88<=140737488355328 by omega),zi i (show i<4611686018427387904 by omega),e,em,Tree.run])
 unfold zgM zEt
 simp only[Tree.run,Option.bind_some,k1',hr2,l1',Bool.not_true,cnF,beq_self_eq_true]
 refine(show zsr c (.l0 (lay c,0) 0 0 [])=_ from l0).trans ?_
 have hf:decide ((nP c:Int)<(c.partitions.length:Int))=false:=z9 (Nat.le_refl _)
 rw[zss]
 simp only[zuI,hf,cnF,Tree.run]
 rfl
theorem zBs{c:za}(hc:zco c)(hv:zbI c=true):(∃ y,zvO c=some y)/\(∃ y,zvP c=some y)/\∃ L:zaQ,zgN c=some (L,0)/\L.end_=(tF c (nP c):Int)/\L.partitions=plT c (nP c):=by
 obtain ⟨r,hr,hr2⟩:=zlJ hc
 have k1':zfp c=some r:=hr
 rw[hv]at hr2
 obtain ⟨g,w⟩:=zbm hc hv
 have hL:=zDs g w.kernel
 obtain ⟨L,l1',_⟩:=zDs g w.kernel
 refine⟨?_,?_,hL⟩
 . unfold zvO
   simp only[Tree.run0,Tree.run,k1',hr2,l1',Bool.not_true,cnF,Option.bind_some]
   exact⟨_,rfl⟩
 . unfold zvP
   simp only[Tree.run0,Tree.run,k1',hr2,l1',Bool.not_true,cnF,Option.bind_some,beq_self_eq_true]
   exact⟨_,rfl⟩
theorem zJv{c:za}(hc:zco c) : ∃ b,zBH c=some b:=by
 have hB:B47=140737488351232:=rfl
 have h1:=hc.cores
 have h2:=hc.parts
 have l4 : ∀ r i,i+r=c.partitions.length->∀ x:Int,∃ b,zsk c (.l4 x (i:Int))=some b:=by
  intro r
  induction r with
  | zero=>
   intro i hi x
   rw[zi4]
   simp only[zn4,z9 (show c.partitions.length<=i by omega),cnF,id,Tree.run,Option.bind_some]
   exact⟨_,rfl⟩
  | succ r ih=>
   intro i hi x
   have hi':i<c.partitions.length:=by omega
   rw[zi4]
   simp only[zn4,zY hi',cnT,zn hi',zi i (show i<4611686018427387904 by omega),id,Tree.run,Option.bind_some]
   cases decide (x<=2147483647)with
   | false=>exact⟨_,rfl⟩
   | true=>exact ih (i+1) (by omega) _
 have l0 : ∀ r i,i+r=c.cores.length->∀ x:Int,∃ b,zsk c (.l0 x (i:Int))=some b:=by
  intro r
  induction r with
  | zero=>
   intro i hi x
   rw[zi4]
   simp only[zn4,z9 (show c.cores.length<=i by omega),cnF,id,Tree.run,Option.bind_some]
   exact l4 c.partitions.length 0 (Nat.zero_add _) x
  | succ r ih=>
   intro i hi x
   have hi':i<c.cores.length:=by omega
   rw[zi4]
   simp only[zn4,zY hi',cnT,zn hi',zi i (show i<4611686018427387904 by omega),id,Tree.run,Option.bind_some]
   cases decide (x<=2147483647)with
   | false=>exact l4 c.partitions.length 0 (Nat.zero_add _) x
   | true=>exact ih (i+1) (by omega) _
 exact l0 c.cores.length 0 (Nat.zero_add _) _
theorem zGB{R:Type}{b1 b2 b3 b4 b5 gd:Bool}(hg:b1=true->b2=true->gd=true)(x y:Option R):cond (!b1) x (cond (!b2) x (cond (!b3) x (cond (!b4) x (cond gd (cond (!b5) x y) none))))=cond (!(b1&&b2&&b3&&b4&&b5)) x y:=by
 cases b1 <;> cases b2 <;> first | rfl | (rw[hg rfl rfl];cases b3 <;> cases b4 <;> cases b5 <;> rfl)
theorem dlt(a b:Int):decide (a<b)=!decide (b<=a):=by
 by_cases h:a<b
 . rw[decide_eq_true h,decide_eq_false (by omega)];rfl
 . rw[decide_eq_false h,decide_eq_true (by omega)];rfl
theorem ztZ{K V:Type}{q:K->Bool}(k:K)(v:V)(E:List (K × V)):zen (fun x=>some (q x)) ((k,v) :: E)=cond (q k) (some (some v)) (zen (fun x=>some (q x)) E):=by
 unfold zen
 simp only[mix]
 rw[zrV E]
 cases q k with
 | true=>rfl
 | false=>cases E.findIdx? fun e=>q e.1 <;> rfl
theorem zoB{K V:Type}{q:K->Bool} : ∀ E:List (K × V),∃ r,zen (fun x=>some (q x)) E=some r/\r.isSome=E.any fun e=>q e.1
 | []=>⟨none,rfl,rfl⟩
 | (k,v) :: E=>by
  obtain ⟨r,h1,h2⟩:=zoB E
  rw[ztZ,List.any_cons]
  cases q k with
  | true=>exact⟨_,rfl,rfl⟩
  | false=>exact⟨r,h1,by simpa using h2⟩
theorem zrW{K V:Type}{q:K->Bool}(k:K)(v:V){E:List (K × V)}(h:(E.any fun e=>q e.1)=false):znU (fun x=>some (q x)) false k v E=some (E++[(k,v)]):=by
 unfold znU
 rw[zrV]
 cases hf:E.findIdx? fun e=>q e.1 with
 | none=>rfl
 | some j=>
  have:(E.findIdx? fun e=>q e.1).isSome=E.any fun e=>q e.1:=List.findIdx?_isSome
  rw[hf,h]at this
  cases this
def ztG{K V:Type}(q:K->Bool)(E:List (K × V)):List (K × V):=match E.findIdx? fun e=>q e.1 with | none=>E | some j=>E.eraseIdx j
theorem zHk{K V:Type}{q:K->Bool}(E:List (K × V)):zqc (fun x=>some (q x)) E=some (ztG q E):=by
 unfold zqc ztG
 rw[zrV]
 cases E.findIdx? fun e=>q e.1 <;> rfl
theorem zzr{K V:Type}{q:K->Bool}{E:List (K × V)}{e:K × V}(h:e ∈ ztG q E):e ∈ E:=by
 unfold ztG at h
 split at h
 . exact h
 . exact List.mem_of_mem_eraseIdx h
noncomputable def fdB(c:za)(l:List z6)(i:Nat):Bool:=decide (0<=(zA l i).partition)&&!decide ((nP c:Int)<=(zA l i).partition)&&decide (0<=(zA l i).epoch)&&!decide (1073741824<=(zA l i).epoch)&&!decide ((P c (zA l i).partition.toNat).inputs<((zA l i).words.length:Int))
noncomputable def znT(l:List z6)(i:Nat)(x:zR):Bool:=((zA l i).partition==x.partition)&&(((zA l i).epoch==x.epoch)&&true)
noncomputable def fdM(l:List z6)(i:Nat):List (zR × List Int):=(List.range i).map fun k=>(⟨(zA l k).partition,(zA l k).epoch⟩,(zA l k).words)
noncomputable def twB(l:List z6)(i:Nat):Bool:=(fdM l i).any fun e=>znT l i e.1
noncomputable def fdQ(c:za)(l:List z6)(i:Nat):Bool:=twB l i || !(fdB c l i)
noncomputable def zdJ(c:za)(l:List z6):Bool:=!((List.range l.length).any (fdQ c l))
noncomputable def fdE(l:List z6):Nat->List (zR × List Int)
 | 0=>fdM l l.length
 | i+1=>if(zA l i).words.length=0 then ztG (znT l i) (fdE l i)else fdE l i
noncomputable def zdZ(c:za)(l:List z6):zT:=⟨c.frames,(List.range (nP c)).map fun p=>(P c p).outputs,(List.range (nP c)).map fun p=>((stA c p+4:Nat):Int),fdE l l.length⟩
structure zyh(l:List z6):Prop where
 len:l.length<=140737488355328
 words : ∀ i,i<l.length->(zA l i).words.length*4<=B47
theorem zry(l:List z6)(i:Nat):fdM l (i+1)=fdM l i++[(⟨(zA l i).partition,(zA l i).epoch⟩,(zA l i).words)]:=by
 unfold fdM
 rw[List.range_succ,List.map_append];rfl
theorem zGG{c:za}{l:List z6}(hf:zyh l):zyf c (zdZ c l):=by
 have hB:B47=140737488351232:=rfl
 have hm : ∀ i,∀ e ∈ fdE l i,∃ k,k<l.length/\e.2=(zA l k).words:=by
  intro i
  induction i with
  | zero=>
   intro e he
   obtain ⟨k,hk,rfl⟩:=List.mem_map.1 he
   exact⟨k,List.mem_range.1 hk,rfl⟩
  | succ i ih=>
   intro e he
   unfold fdE at he
   split at he
   . exact ih e (zzr he)
   . exact ih e he
 refine⟨rfl,⟨by simp[zdZ],fun p hp=>by simp[zdZ,zw,List.getD,hp]⟩,⟨by simp[zdZ],fun p hp=>by simp[zdZ,zw,List.getD,hp]⟩,fun e he=>?_⟩
 obtain ⟨k,hk,e2⟩:=hm _ e he
 have:=hf.words k hk
 rw[e2];omega
section
variable {c:za} (hc:zco c) {l:List z6} (hf:zyh l)
include hc hf
theorem zlY(hv:zbI c=true){i:Nat}(hi:i<l.length)(x1 x2:List Int) :
 zdT c l (.l4 (i:Int) x1 x2 (fdM l i))=cond (fdQ c l i) none (zdT c l (.l4 ((i+1:Nat):Int) x1 x2 (fdM l (i+1))))/\
  zbY c l (.l4 (i:Int) x1 x2 (fdM l i))=cond (fdQ c l i) (some (none,220)) (zbY c l (.l4 ((i+1:Nat):Int) x1 x2 (fdM l (i+1)))):=by
 have hl:=hf.len
 obtain ⟨r,h1,h2⟩:=zoB (q:=znT l i) (fdM l i)
 have hr:r.isSome=twB l i:=h2
 have m1':zen (fun x:zR=>some (((zA l i).partition==x.partition)&&(((zA l i).epoch==x.epoch)&&true))) (fdM l i)=some r:=h1
 have hw:=hf.words i hi
 have hB:B47=140737488351232:=rfl
 have c1':zgL (zA l i).words=some (zA l i).words:=zlu (by omega)
 have hg:decide (0<=(zA l i).partition)=true->(!decide ((nP c:Int)<=(zA l i).partition))=true->zN (zA l i).partition c.partitions.length=true:=fun a b=>by
  simp only[decide_eq_true_eq,Bool.not_eq_true',decide_eq_false_iff_not]at a b
  exact zbA a (by unfold nP at b;omega)
 constructor
 . rw[zeu]
   simp only[ziw,zY hi,zn hi,cnT,tnC,m1',Option.bind_some,hr,Tree.run,c1']
   unfold fdQ
   cases ht:twB l i with
   | true=>rfl
   | false=>
    have p1':znU (fun x:zR=>some (((zA l i).partition==x.partition)&&(((zA l i).epoch==x.epoch)&&true))) false ⟨(zA l i).partition,(zA l i).epoch⟩ (zA l i).words (fdM l i)=some _:=zrW (q:=znT l i) _ _ ht
    simp only[p1',Option.bind_some,cnF,zi i (show i<4611686018427387904 by omega),Bool.false_or,← zry]
    have:=zGB hg (b3:=decide (0<=(zA l i).epoch)) (b4:=!decide (1073741824<=(zA l i).epoch)) (b5:=!decide ((P c (zA l i).partition.toNat).inputs<((zA l i).words.length:Int))) none (zdT c l (.l4 ((i+1:Nat):Int) x1 x2 (fdM l (i+1))))
    rw[Bool.not_not,Bool.not_not,Bool.not_not,← dlt,← dlt]at this
    exact this
 . rw[zfJ]
   simp only[ze0,zY hi,zn hi,cnT,tnC,m1',Option.bind_some,hr,Tree.run,c1']
   unfold fdQ
   cases ht:twB l i with
   | true=>rfl
   | false=>
    have p1':znU (fun x:zR=>some (((zA l i).partition==x.partition)&&(((zA l i).epoch==x.epoch)&&true))) false ⟨(zA l i).partition,(zA l i).epoch⟩ (zA l i).words (fdM l i)=some _:=zrW (q:=znT l i) _ _ ht
    simp only[p1',Option.bind_some,cnF,zi i (show i<4611686018427387904 by omega),Bool.false_or,← zry]
    have:=zGB hg (b3:=decide (0<=(zA l i).epoch)) (b4:=!decide (1073741824<=(zA l i).epoch)) (b5:=!decide ((P c (zA l i).partition.toNat).inputs<((zA l i).words.length:Int))) (some (none,220)) (zbY c l (.l4 ((i+1:Nat):Int) x1 x2 (fdM l (i+1))))
    rw[Bool.not_not,Bool.not_not,Bool.not_not,← dlt,← dlt]at this
    exact this
theorem zof(hv:zbI c=true)(h4:l.length<=4096) : ∃ x1 x2:List Int,x1=(zdZ c l).outs/\x2=(zdZ c l).at_/\znu c l=zdT c l (.l4 0 x1 x2 [])/\zef c l=zbY c l (.l4 0 x1 x2 []):=by
 obtain ⟨g,w⟩:=zbm hc hv
 have hP:nP c<=8:=g.few.parts
 obtain ⟨r,hr,hr2⟩:=zjv hc
 rw[hv]at hr2
 have k1':zdI c=some r:=hr
 have l1':zcZ c=some (lay c,0):=zrO g w.kernel
 have d0:decide ((l.length:Int)>4096)=false:=decide_eq_false (by omega)
 have hf:decide ((nP c:Int)<(c.partitions.length:Int))=false:=z9 (Nat.le_refl _)
 have e1 : ∀ i,(List.range (i+1)).map (fun p=>(P c p).outputs)=(List.range i).map (fun p=>(P c p).outputs)++[(zb c.partitions i).outputs]:=fun i=>by rw[List.range_succ,List.map_append];rfl
 have e2 : ∀ i,(List.range (i+1)).map (fun p=>((stA c p+4:Nat):Int))=(List.range i).map (fun p=>((stA c p+4:Nat):Int))++[((stA c i+4:Nat):Int)]:=fun i=>by rw[List.range_succ,List.map_append];rfl
 have e3 : ∀ i,i<nP c->i64.wrap ((full c i).state+4)=((stA c i+4:Nat):Int):=fun i hi=>by
  obtain ⟨n1,n2,_⟩:=zv3 g w hi
  exact zz _ _ (by show((pAt c i+19:Nat):Int)+4=((pAt c i+19+4:Nat):Int);omega) (by omega)
 refine⟨_,_,rfl,rfl,?_,?_⟩
 . have l0:=zK (n:=nP c) (f:=fun i (xs:List Int × List Int)=>zdT c l (.l0 (lay c,0) (i:Int) xs.1 xs.2)) (S:=fun i=>((List.range i).map fun p=>(P c p).outputs,(List.range i).map fun p=>((stA c p+4:Nat):Int))) (fun i hi=>by
    have hi':i<c.partitions.length:=hi
    obtain ⟨p1,p2⟩:=ztT g w hi
    rw[zeu]
    simp only[ziw,zY hi',cnT,zn hi',tnC,p1,p2,zn hi,e3 i hi,List.length_singleton,List.length_map,List.length_range,za0 (show(i+1)*8<=140737488355328 by omega),zi i (show i<4611686018427387904 by omega),e1,e2,Tree.run])
   unfold znu zEq
   simp only[Tree.run,Option.bind_some,d0,k1',hr2,l1',Bool.not_true,cnF,beq_self_eq_true]
   refine(show zdT c l (.l0 (lay c,0) 0 [] [])=_ from l0).trans ?_
   rw[zeu]
   simp only[ziw,hf,cnF,Tree.run]
   rfl
 . have l0:=zK (n:=nP c) (f:=fun i (xs:List Int × List Int)=>zbY c l (.l0 (lay c,0) (i:Int) xs.1 xs.2)) (S:=fun i=>((List.range i).map fun p=>(P c p).outputs,(List.range i).map fun p=>((stA c p+4:Nat):Int))) (fun i hi=>by
    have hi':i<c.partitions.length:=hi
    obtain ⟨p1,p2⟩:=ztT g w hi
    rw[zfJ]
    simp only[ze0,zY hi',cnT,zn hi',tnC,p1,p2,zn hi,e3 i hi,List.length_singleton,List.length_map,List.length_range,za0 (show(i+1)*8<=140737488355328 by omega),zi i (show i<4611686018427387904 by omega),e1,e2,Tree.run])
   unfold zef zoj
   simp only[Tree.run,Option.bind_some,d0,k1',hr2,l1',Bool.not_true,cnF,beq_self_eq_true]
   refine(show zbY c l (.l0 (lay c,0) 0 [] [])=_ from l0).trans ?_
   rw[zfJ]
   simp only[ze0,hf,cnF,Tree.run]
   rfl
theorem zjz{σ R:Type}{n:Nat}{f:Nat->σ->Option R}{S:Nat->σ}{q:Nat->Bool}{r:Option R}(hs : ∀ i,i<n->f i (S i)=cond (q i) r (f (i+1) (S (i+1)))):f 0 (S 0)=cond ((List.range n).any q) r (f n (S n)):=zas (f:=fun i=>f i (S i)) (e:=f n (S n)) hs rfl
theorem zLO(hv:zbI c=true)(h4:l.length<=4096)(hb:zdJ c l=true):znu c l=some (zdZ c l,0):=by
 obtain ⟨x1,x2,rfl,rfl,e,_⟩:=zof hc hf hv h4
 have hn:(List.range l.length).any (fdQ c l)=false:=by unfold zdJ at hb;simpa using hb
 have l4:=zjz hc hf (n:=l.length) (f:=fun i (m:List (zR × List Int))=>zdT c l (.l4 (i:Int) (zdZ c l).outs (zdZ c l).at_ m)) (S:=fdM l) (fun i hi=>(zlY hc hf hv hi _ _).1)
 rw[hn]at l4
 have l8:=zK (n:=l.length) (f:=fun i (m:List (zR × List Int))=>zdT c l (.l8 (i:Int) (zdZ c l).outs (zdZ c l).at_ m)) (S:=fdE l) (fun i hi=>by
  have e61 : ∀ m,zdT c l (.l61 (i:Int) (zdZ c l).outs (zdZ c l).at_ m)=zdT c l (.l8 ((i+1:Nat):Int) (zdZ c l).outs (zdZ c l).at_ m):=fun m=>by
   rw[zeu]
   simp only[ziw,zi i (show i<4611686018427387904 by omega),Tree.run]
  have d1':zqc (fun x:zR=>some (((zA l i).partition==x.partition)&&(((zA l i).epoch==x.epoch)&&true))) (fdE l i)=some (ztG (znT l i) (fdE l i)):=zHk (q:=znT l i) _
  have ee:fdE l (i+1)=if(zA l i).words.length=0 then ztG (znT l i) (fdE l i)else fdE l i:=rfl
  rw[zeu]
  simp only[ziw,zY hi,zn hi,cnT,tnC,Tree.run,d1',Option.bind_some,e61]
  by_cases h0:(zA l i).words.length=0
  . rw[ee,if_pos h0,h0];rfl
  . have:(((zA l i).words.length:Int)==0)=false:=nz h0
    rw[ee,if_neg h0,this];rfl)
 rw[e]
 refine(show zdT c l (.l4 0 (zdZ c l).outs (zdZ c l).at_ [])=_ from l4).trans ?_
 rw[cnF,zeu]
 simp only[ziw,z9 (Nat.le_refl _),cnF,Tree.run]
 refine(show zdT c l (.l8 0 (zdZ c l).outs (zdZ c l).at_ (fdM l l.length))=_ from l8).trans ?_
 rw[zeu]
 simp only[ziw,z9 (Nat.le_refl _),cnF,Tree.run]
 rfl
theorem zLN(hv:zbI c=true)(h4:l.length<=4096)(hb:zdJ c l=false):znu c l=none/\zef c l=some (none,220):=by
 obtain ⟨x1,x2,_,_,e,e'⟩:=zof hc hf hv h4
 have hn:(List.range l.length).any (fdQ c l)=true:=by unfold zdJ at hb;simpa using hb
 have l4:=zjz hc hf (n:=l.length) (f:=fun i (m:List (zR × List Int))=>zdT c l (.l4 (i:Int) x1 x2 m)) (S:=fdM l) (fun i hi=>(zlY hc hf hv hi _ _).1)
 have l4':=zjz hc hf (n:=l.length) (f:=fun i (m:List (zR × List Int))=>zbY c l (.l4 (i:Int) x1 x2 m)) (S:=fdM l) (fun i hi=>(zlY hc hf hv hi _ _).2)
 rw[hn]at l4 l4'
 exact⟨e.trans l4,e'.trans l4'⟩
theorem zJd:zvY c l=some (zdJ c l):=by
 have hl:=hf.len
 have h:=zas (n:=l.length) (f:=fun i=>zji c l (.l0 (i:Int))) (q:=fdQ c l) (r:=some false) (e:=some true) (fun i hi=>by
  have hg:decide (0<=(zA l i).partition)=true->(!decide ((nP c:Int)<=(zA l i).partition))=true->zN (zA l i).partition c.partitions.length=true:=fun a b=>by
   simp only[decide_eq_true_eq,Bool.not_eq_true',decide_eq_false_iff_not]at a b
   exact zbA a (by unfold nP at b;omega)
  have hin:=zas (n:=i) (f:=fun k=>zji c l (.l4 (i:Int) (k:Int) (zA l i).partition (zA l i).epoch (zA l i).words)) (q:=fun k=>((zA l k).partition==(zA l i).partition)&&((zA l k).epoch==(zA l i).epoch)) (r:=some false) (e:=zji c l (.l0 ((i+1:Nat):Int))) (fun k hk=>by
   have hk':k<l.length:=by omega
   rw[zjj]
   simp only[zoc,zY hk,zn hk',cnT,tnC,zi k (show k<4611686018427387904 by omega),zfT,Tree.run]) (by
   rw[zjj]
   simp only[zoc,z9 (Nat.le_refl _),cnF,zi i (show i<4611686018427387904 by omega),Tree.run])
  have hin':zji c l (.l4 (i:Int) 0 (zA l i).partition (zA l i).epoch (zA l i).words)=_:=hin
  have htw:((List.range i).any fun k=>((zA l k).partition==(zA l i).partition)&&((zA l k).epoch==(zA l i).epoch))=twB l i:=by
   unfold twB fdM
   rw[List.any_map]
   congr 1
   funext k
   show _=znT l i ⟨(zA l k).partition,(zA l k).epoch⟩
   unfold znT
   rw[Bool.and_true]
   congr 1
   . exact Bool.eq_iff_iff.2 (by rw[beq_iff_eq,beq_iff_eq];exact eq_comm)
   . exact Bool.eq_iff_iff.2 (by rw[beq_iff_eq,beq_iff_eq];exact eq_comm)
  rw[htw]at hin'
  rw[zjj]
  simp only[zoc,zY hi,zn hi,cnT,tnC,Tree.run,hin']
  have:=zGB hg (b3:=decide (0<=(zA l i).epoch)) (b4:=!decide (1073741824<=(zA l i).epoch)) (b5:=!decide ((P c (zA l i).partition.toNat).inputs<((zA l i).words.length:Int))) (some false) (cond (twB l i) (some false) (zji c l (.l0 ((i+1:Nat):Int))))
  rw[Bool.not_not,Bool.not_not,Bool.not_not,← dlt,← dlt]at this
  refine Eq.trans this ?_
  show cond (!(fdB c l i)) _ _=cond (twB l i || !(fdB c l i)) _ _
  cases twB l i <;> cases fdB c l i <;> rfl) (by
  rw[zjj]
  simp only[zoc,z9 (Nat.le_refl _),cnF,Tree.run])
 unfold zvY zEM zdJ
 refine(show zji c l (.l0 0)=_ from h).trans ?_
 cases (List.range l.length).any (fdQ c l) <;> rfl
omit hc hf in
theorem zJc{f:z6}(hf:f.words.length*4<=140737488355328)(c:za)(L:zaQ){fs:List z6}(hl:fs.length<=4096) : ∃ fs',zsY f c L fs=some ⟨c,L,fs'⟩/\fs'.length<=fs.length+1:=by
 have key : ∀ m i,i+m=fs.length->∀ (b:Bool) (out:List z6),out.length=i+cond b 1 0->∃ fs',zpe f c L fs (.l0 b (i:Int) out)=some ⟨c,L,fs'⟩/\fs'.length<=fs.length+1:=by
  intro m
  induction m with
  | zero=>
   intro i hi b out ho
   have e31 : ∀ o,zpe f c L fs (.l31 o)=some ⟨c,L,o⟩:=fun o=>by
    rw[zjk]
    simp only[zod,Tree.run]
   rw[zjk]
   simp only[zod,z9 (show fs.length<=i by omega),cnF,Tree.run,e31]
   cases b with
   | true=>exact⟨out,rfl,by simp at ho;omega⟩
   | false=>
    simp only[cnF,Nat.add_zero]at ho
    simp only[Bool.not_false,cnT,List.length_singleton,za0 (show(out.length+1)*40<=140737488355328 by omega)]
    exact⟨_,rfl,by rw[List.length_append,List.length_singleton];omega⟩
  | succ m ih=>
   intro i hi b out ho
   have hil:i<fs.length:=by omega
   have hb1:out.length<=i+1:=by cases b <;> simp at ho <;> omega
   have e25 : ∀ (b:Bool) (out:List z6),out.length=i+cond b 1 0->∃ fs',zpe f c L fs (.l25 b (i:Int) out)=some ⟨c,L,fs'⟩/\fs'.length<=fs.length+1:=fun b out ho=>by
    have hb1:out.length<=i+1:=by cases b <;> simp at ho <;> omega
    rw[zjk]
    simp only[zod,zn hil,cnT,List.length_singleton,za0 (show(out.length+1)*40<=140737488355328 by omega),zi i (show i<4611686018427387904 by omega),Tree.run]
    exact ih (i+1) (by omega) b _ (by rw[List.length_append,List.length_singleton];omega)
   rw[zjk]
   simp only[zod,zY hil,zn hil,cnT,List.length_singleton,za0 (show(out.length+1)*40<=140737488355328 by omega),Tree.run]
   cases b with
   | true=>exact e25 true out ho
   | false=>
    simp only[Bool.not_false,cnT]
    cases zBA (⟨f.partition,f.epoch,[]++f.words⟩:z6) (zA fs (i:Int).toNat)with
    | false=>exact e25 false out ho
    | true=>exact e25 true _ (by rw[List.length_append,List.length_singleton,ho];rfl)
 unfold zsY zEN
 simp only[Tree.run,List.length_nil,za0 (show(0+f.words.length)*4<=140737488355328 by omega),cnT]
 exact key fs.length 0 (Nat.zero_add _) false [] rfl
theorem zJa(hv:zbI c=true)(h4:l.length<=4096) : ∃ y,zvQ c l=some (y,cond (zdJ c l) 0 220):=by
 have hB:B47=140737488351232:=rfl
 obtain ⟨_,_,L,l1',_⟩:=zBs hc hv
 obtain ⟨r,hr,hr2⟩:=zlJ hc
 have k1':zfp c=some r:=hr
 rw[hv]at hr2
 have m1':=zJd hc hf
 have key : ∀ m i,i+m=l.length->∀ fs:List z6,fs.length<=i->∃ y,zpb c l (.l0 (i:Int) c.frames c.major c.kernel c.room c.cores c.partitions c.channels L.barrier L.partitions L.channels L.end_ fs)=some (y,0):=by
  intro m
  induction m with
  | zero=>
   intro i hi fs hfs
   rw[zmY]
   simp only[zri,z9 (show l.length<=i by omega),cnF,Tree.run]
   exact⟨_,rfl⟩
  | succ m ih=>
   intro i hi fs hfs
   have hil:i<l.length:=by omega
   have hw:=hf.words i hil
   have e25 : ∀ fs:List z6,zpb c l (.l25 (i:Int) c.frames c.major c.kernel c.room c.cores c.partitions c.channels L.barrier L.partitions L.channels L.end_ fs)=zpb c l (.l0 ((i+1:Nat):Int) c.frames c.major c.kernel c.room c.cores c.partitions c.channels L.barrier L.partitions L.channels L.end_ fs):=fun fs=>by
    rw[zmY]
    simp only[zri,zi i (show i<4611686018427387904 by omega),Tree.run]
   obtain ⟨fs',y1',hfs'⟩:=zJc (f:=zA l i) (by omega) c L (fs:=fs) (by omega)
   rw[zmY]
   simp only[zri,zY hil,zn hil,cnT,tnC,Tree.run,y1',Option.bind_some,e25]
   cases decide (((zA l i).words.length:Int)>0)with
   | true=>exact ih (i+1) (by omega) _ (by omega)
   | false=>exact ih (i+1) (by omega) _ (by omega)
 unfold zvQ zEw
 simp only[Tree.run,Option.bind_some,decide_eq_false (show ¬ (l.length:Int)>4096 by omega),k1',hr2,Bool.not_true,cnF,m1',l1']
 cases zdJ c l with
 | false=>exact⟨_,rfl⟩
 | true=>exact key l.length 0 (Nat.zero_add _) [] (Nat.le_refl _)
noncomputable def okB(c:za)(l:List z6):Bool:=!decide (l.length>4096)&&(zbI c&&zdJ c l)
noncomputable def zxj(c:za)(l:List z6):Int:=cond (decide (l.length>4096)) 2 (cond (zbI c) (cond (zdJ c l) 0 220) 250)
noncomputable def zcq(c:za)(l:List z6):zq:=⟨c.frames,lay c,some (zp0 c),some (zdZ c l),some (zur c)⟩
theorem zuT(g:zaA c):zpw c (zcq c l) (zp0 c) (zdZ c l) (zur c):=⟨rfl,rfl,rfl,zzu c,rfl,zGG hf,rfl,zJx g⟩
theorem zGA(h:okB c l=true):zjm c l=some (zcq c l,0):=by
 unfold okB at h
 simp only[Bool.and_eq_true,Bool.not_eq_true',decide_eq_false_iff_not]at h
 obtain ⟨h4,hv,hb⟩:=h
 obtain ⟨g,w⟩:=zbm hc hv
 obtain ⟨r,hr,hr2⟩:=zjv hc
 have k1':zdI c=some r:=hr
 rw[hv]at hr2
 have l1':zcZ c=some (lay c,0):=zrO g w.kernel
 unfold zjm
 simp only[Tree.run0,Tree.run,Option.bind_some,decide_eq_false (show ¬ (l.length:Int)>4096 by omega),k1',hr2,Bool.not_true,cnF,l1',zLO hc hf hv (by omega) hb,zMK hc hv,zAj hc hv,zhA,beq_self_eq_true]
 rfl
theorem zGz(h:okB c l=false):zjm c l=none/\zdi c l=some (none,zxj c l):=by
 unfold okB at h
 unfold zxj
 by_cases h4:l.length>4096
 . constructor
   . unfold zjm
     simp only[Tree.run0,Tree.run,decide_eq_true (show(l.length:Int)>4096 by omega),cnT]
   . unfold zdi
     simp only[Tree.run0,Tree.run,decide_eq_true (show(l.length:Int)>4096 by omega),decide_eq_true h4,cnT]
 . rw [decide_eq_false h4]at h ⊢
   have d0:decide ((l.length:Int)>4096)=false:=decide_eq_false (by omega)
   obtain ⟨r,hr,hr2⟩:=zjv hc
   have k1':zdI c=some r:=hr
   cases hv:zbI c with
   | false=>
    rw[hv]at hr2
    constructor
    . unfold zjm
      simp only[Tree.run0,Tree.run,Option.bind_some,d0,k1',hr2,Bool.not_false,cnF,cnT]
    . unfold zdi
      simp only[Tree.run0,Tree.run,Option.bind_some,d0,k1',hr2,Bool.not_false,cnF,cnT]
   | true=>
    rw[hv]at h hr2
    have hb:zdJ c l=false:=by simpa using h
    obtain ⟨d1',d2'⟩:=zLN hc hf hv (by omega) hb
    rw[hb]
    constructor
    . unfold zjm
      simp only[Tree.run0,Tree.run,Option.bind_some,d0,k1',hr2,Bool.not_true,cnF,d1',d2',zgo,show((220:Int)==0)=false from rfl,Bool.not_false,cnT]
    . unfold zdi
      simp only[Tree.run0,Tree.run,Option.bind_some,d0,k1',hr2,Bool.not_true,cnF,d1',d2',zgo,show((220:Int)==0)=false from rfl,Bool.not_false,cnT]
theorem zvr : ∃ y,znp c l=some (y,zxj c l)/\y.isNone=!(okB c l):=by
 unfold okB zxj znp
 by_cases h4:l.length>4096
 . simp only[Tree.run0,Tree.run,decide_eq_true (show(l.length:Int)>4096 by omega),decide_eq_true h4,cnT]
   exact⟨_,rfl,rfl⟩
 . rw[decide_eq_false h4]
   have d0:decide ((l.length:Int)>4096)=false:=decide_eq_false (by omega)
   obtain ⟨r,hr,hr2⟩:=zlJ hc
   have k1':zfp c=some r:=hr
   cases hv:zbI c with
   | false=>
    rw[hv]at hr2
    simp only[Tree.run0,Tree.run,Option.bind_some,d0,k1',hr2,Bool.not_false,cnF,cnT]
    exact⟨_,rfl,rfl⟩
   | true=>
    rw[hv]at hr2
    obtain ⟨⟨y1,n1'⟩,⟨y2,n2'⟩,L,l1',_⟩:=zBs hc hv
    obtain ⟨y3,n3'⟩:=zJa hc hf hv (by omega)
    simp only[Tree.run0,Tree.run,Option.bind_some,d0,k1',hr2,Bool.not_true,cnF,l1',n1',n2',n3']
    cases zdJ c l with
    | false=>exact⟨_,rfl,rfl⟩
    | true=>exact⟨_,rfl,rfl⟩
end
theorem zt8{x:zf}(hx:zcM x){j a:Nat}(h:0<=zaV x (16*j))(ha:a / 16=j):0<=zaV x a:=by
 unfold zaV at h ⊢
 rw[show 16*j / 16=j by omega]at h
 rw[ha]
 cases hq:(List.range x.regions.length).find? (za5 x j)with
 | none=>rw[hq]at h;dsimp only at h;omega
 | some i=>
  have hi:=List.mem_range.1 (List.mem_of_find?_eq_some hq)
  have hqi:=List.find?_some hq
  simp only[za5,Bool.and_eq_true,decide_eq_true_eq]at hqi
  obtain ⟨b1,_⟩:=hx.frame i hi
  dsimp only
  omega
theorem zHh{x:zf}(hx:zcM x)(prog:List Int) : ∃ b,zsO x prog=some b/\(b=true ↔ (prog.length<=1024/\∀ a,a<prog.length->0<=zaV x a)):=by
 unfold zsO zEy
 by_cases h:(prog.length:Int)>1024
 . simp only[Tree.run,decide_eq_true h,cnT]
   exact⟨_,rfl,⟨fun e=>(by cases e),fun e=>absurd e.1 (by omega)⟩⟩
 . simp only[Tree.run,decide_eq_false h,cnF]
   have key : ∀ m j,prog.length<=16*j+16*m->∃ b,zvF x prog (.l0 ((16*j:Nat):Int))=some b/\(b=true ↔ ∀ a,16*j<=a->a<prog.length->0<=zaV x a):=by
    intro m
    induction m with
    | zero=>
     intro j hj
     rw[zm0]
     simp only[zrj,z9 (show prog.length<=16*j by omega),cnF,Tree.run]
     exact⟨_,rfl,fun _ a h1 h2=>by omega,fun _=>rfl⟩
    | succ m ih=>
     intro j hj
     by_cases hl:16*j<prog.length
     . have k1':=zqj hx (a:=16*j) (by omega)
       have w1:i64.wrap (((16*j:Nat):Int)+16)=((16*(j+1):Nat):Int):=zz _ _ (by omega) (by omega)
       rw[zm0]
       simp only[zrj,zY hl,cnT,k1',Option.bind_some,w1,Tree.run]
       by_cases hp:zaV x (16*j)<0
       . rw[decide_eq_true hp,cnT]
         exact⟨_,rfl,⟨fun e=>(by cases e),fun e=>absurd (e (16*j) (Nat.le_refl _) hl) (by omega)⟩⟩
       . rw[decide_eq_false hp,cnF]
         obtain ⟨b,e,hb⟩:=ih (j+1) (by omega)
         refine⟨b,e,fun h1 a h2 h3=>?_,fun h1=>hb.2 fun a h2 h3=>h1 a (by omega) h3⟩
         by_cases h4:16*(j+1)<=a
         . exact hb.1 h1 a h4 h3
         . exact zt8 hx (j:=j) (by omega) (by omega)
     . rw[zm0]
       simp only[zrj,z9 (show prog.length<=16*j by omega),cnF,Tree.run]
       exact⟨_,rfl,fun _ a h1 h2=>by omega,fun _=>rfl⟩
   obtain ⟨b,e,hb⟩:=key 64 0 (by omega)
   exact⟨b,e,fun h1=>⟨by omega,fun a ha=>hb.1 h1 a (by omega) ha⟩,fun h1=>hb.2 fun a _ ha=>h1.2 a ha⟩
section
variable {c:za} (g:zaA c) (w:zeJ c)
include g w
theorem zAq{p:Nat}(hp:p<nP c){prog:List Int}(hl:prog.length<=1024)(hpl : ∀ a,a<prog.length->0<=zaV (P c p) a)(h:Nat->Int):zph (P c p) prog (mk (nW c) h)=some (mk (nW c) (zmj (P c p) prog h prog.length)):=by
 have lp:=zK (n:=prog.length) (f:=fun i (m:List Int)=>zst (P c p) prog (mk (nW c) h) (.l0 (i:Int) m)) (S:=fun i=>mk (nW c) (zmj (P c p) prog h i)) (fun i hi=>by
  have k1':=zqj (zcG g hp) (a:=i) (by omega)
  obtain ⟨z,hz⟩ : ∃ z:Nat,zaV (P c p) i=(z:Int):=⟨(zaV (P c p) i).toNat,by have:=hpl i hi;omega⟩
  obtain ⟨_,_,_,_,_,hzn⟩:=zj3 g w hp hz (by omega)
  have hz2:z<nW c:=by omega
  have e:mk (nW c) (fun k=>if k=z then zw prog i else zmj (P c p) prog h i k)=mk (nW c) (zmj (P c p) prog h (i+1)):=zbS fun k _=>by
   show _=if(k:Int)=zaV (P c p) i then zw prog i else zmj (P c p) prog h i k
   rw[hz]
   by_cases hk:k=z
   . rw[if_pos hk,if_pos (by omega)]
   . rw[if_neg hk,if_neg (by omega)]
  rw[hz]at k1'
  rw[zsu]
  simp only[zuJ,zY hi,zn hi,cnT,k1',Option.bind_some,zP,zn hz2,tnC,zdK hz2,e,zi i (show i<4611686018427387904 by omega),Tree.run])
 unfold zph zEA
 refine(show zst (P c p) prog (mk (nW c) h) (.l0 0 (mk (nW c) h))=_ from lp).trans ?_
 rw[zsu]
 simp only[zuJ,z9 (Nat.le_refl _),cnF,Tree.run]
end
theorem ztu {c:za} (hc:zco c) (hv:zbI c=true) {l:List (List Int)} (hl : ∀ i j,0<=zw (zW l i) j/\zw (zW l i) j<4294967296) : ∃ r,zfX c l=some r/\(r.2.1=0->r.1=mk (nW c) (zcO c l (nP c)))/\(l.length<=nP c->(∀ j,j<l.length->(zW l j).length<=1024/\∀ a,a<(zW l j).length->0<=zaV (P c j) a)->r.2.1=0):=by
 obtain ⟨g,w⟩:=zbm hc hv
 have hP:nP c<=8:=g.few.parts
 obtain ⟨r,hr,hr2⟩:=zlJ hc
 have k1':zfp c=some r:=hr
 rw[hv]at hr2
 obtain ⟨L,o1',_,hLp⟩:=zDs g w.kernel
 obtain ⟨w1,w2⟩:=zvi g w.kernel
 have hpn:c.partitions.length=nP c:=rfl
 unfold zfX zEm
 simp only[Tree.run,k1',Option.bind_some,hr2,Bool.not_true,cnF]
 by_cases hlen:(l.length:Int)>(c.partitions.length:Int)
 . rw[decide_eq_true hlen,cnT]
   exact⟨_,rfl,fun e=>(by cases e),fun e _=>absurd e (by omega)⟩
 . rw [decide_eq_false hlen,cnF]
   have ew:i64.wrap (c.frames*16)=(nW c:Int):=zz _ _ (by omega) (by omega)
   -- the programs lie in their partitions, or do not
   have k0 : ∀ m i,i+m=l.length->(∀ j,j<i->(zW l j).length<=1024/\∀ a,a<(zW l j).length->0<=zaV (P c j) a)->
    (∃ q,zi7 c l (.l0 (i:Int))=some ([],241,q)/\¬ ∀ j,j<l.length->(zW l j).length<=1024/\∀ a,a<(zW l j).length->0<=zaV (P c j) a) ∨ ((∀ j,j<l.length->(zW l j).length<=1024/\∀ a,a<(zW l j).length->0<=zaV (P c j) a)/\zi7 c l (.l0 (i:Int))=zi7 c l (.l4 (L,0) 0 (mk (nW c) fun _=>0))):=by
    intro m
    induction m with
    | zero=>
     intro i hi hj
     refine .inr ⟨fun j hjl=>hj j (by omega),?_⟩
     rw[zgC]
     simp only[zlR,z9 (show l.length<=i by omega),cnF,o1',Option.bind_some,ew,Tree.run,tnC,zqd,show(decide True&&decide (0<=(nW c:Int))&&leB (nW c*4) 140737488355328)=true from by rw[za0 (by omega),decide_eq_true (show(0:Int)<=(nW c:Int)by omega)];rfl,cnT]
    | succ m ih=>
     intro i hi hj
     have hil:i<l.length:=by omega
     have hip:i<c.partitions.length:=by omega
     obtain ⟨b,b1',hb⟩:=zHh (zcG g hip) (zW l i)
     have b2':zsO (zb c.partitions i) (zW l i)=some b:=b1'
     rw[zgC]
     simp only[zlR,zY hil,zn hil,zn hip,cnT,tnC,b2',Option.bind_some,zi i (show i<4611686018427387904 by omega),Tree.run]
     cases b with
     | false=>exact .inl ⟨_,rfl,fun h=>by have:=hb.2 (h i hil);cases this⟩
     | true=>
      refine ih (i+1) (by omega) fun j hj2=>?_
      by_cases e:j=i
      . subst e;exact hb.1 rfl
      . exact hj j (by omega)
   rcases k0 l.length 0 (Nat.zero_add _) (fun j hj=>absurd hj (Nat.not_lt_zero _))with ⟨q,e,hn⟩ | ⟨hlie,e⟩
   . exact⟨_,e,fun e=>(by cases e),fun _ e2=>absurd e2 hn⟩
   . have l4:=zK (n:=nP c) (f:=fun p (m:List Int)=>zi7 c l (.l4 (L,0) (p:Int) m)) (S:=fun p=>mk (nW c) (zcO c l p)) (fun p hp=>by
      have hp':p<c.partitions.length:=hp
      have hlenp:p<L.partitions.length:=by rw[hLp,ziX];exact hp
      have hat:zm L.partitions p=full c p:=by rw[hLp,zqh hp,if_pos hp]
      have hb:=zlU g w hl p (by omega)
      have t1':zpg (zb c.partitions p) (full c p) (mk (nW c) (zcO c l p))=some (mk (nW c) (TW (P c p) (tF c p) (zcO c l p))):=zDV (zcG g hp) (zqi g w hp) (zcO c l p) (fun a h1 h2=>by
       have hT:InT c p a:=⟨h1,h2⟩
       obtain ⟨b1,b2⟩:=zte g w hp hT
       have hlt:=zpA hT
       refine hb.zero a b1 b2 (fun q hq hTq=>?_) fun q hq e=>?_
       . have:=zuu g w hp (by omega) hT hTq;omega
       . have e1:pAt c (nP c)=16*kF0 c+2+24*nP c:=rfl
         have e2:pAt c q=16*kF0 c+2+24*q:=rfl
         omega)
      have hpt:=zqg hp
      have hcE:=zpX g w
      have hin:pAt c p+18<nW c:=by omega
      have hsv:i64.wrap ((full c p).save+16)=((pAt c p+18:Nat):Int):=zz _ _ (by show((pAt c p+2:Nat):Int)+16=_;omega) (by omega)
      have e31 : ∀ m:List Int,zi7 c l (.l31 (L,0) (p:Int) m)=zi7 c l (.l4 (L,0) ((p+1:Nat):Int) m):=fun m=>by
       rw[zgC]
       simp only[zlR,zi p (show p<4611686018427387904 by omega),Tree.run]
      have es:zcO c l (p+1)=zrk c l (zcO c l p) p:=rfl
      rw[zgC]
      simp only[zlR,tnC,zY hp',zn hp',cnT,zn hlenp,hat,t1',Option.bind_some,hsv,zP,zn hin,zdK hin,e31,Tree.run]
      unfold zrk at es
      by_cases hpl:p<l.length
      . rw[if_pos hpl]at es
        have y1':zph (zb c.partitions p) (zW l p) (mk (nW c) fun i=>if i=pAt c p+18 then u32.wrap (zb c.partitions p).entry else TW (P c p) (tF c p) (zcO c l p) i)=some _:=zAq g w hp (hlie p hpl).1 (hlie p hpl).2 _
        rw[zY hpl,cnT,zn hpl,cnT,y1',Option.bind_some,es]
        rfl
      . rw[if_neg hpl]at es
        rw[z9 (show l.length<=p by omega),cnF,es]
        rfl)
     refine⟨(mk (nW c) (zcO c l (nP c)),0,-1),(e.trans l4).trans ?_,fun _=>rfl,fun _ _=>rfl⟩
     rw[zgC]
     simp only[zlR,hpn,z9 (Nat.le_refl _),cnF,Tree.run]
theorem zAQ{c:za}(g:zaA c)(w:zeJ c)(f:Nat->Int):znq (mk (nW c) f)=some (⟨mk (nW c) f⟩,0)/\∃ y,znr (mk (nW c) f)=some (y,0):=by
 obtain ⟨w1,w2⟩:=zvi g w.kernel
 have hf:=g.frames
 have d0:decide ((nW c:Int)>16384)=false:=decide_eq_false (by omega)
 have d1:((nW c:Int)==0)=false:=nz (by omega)
 have d2:bop .rem .i64 (nW c:Int) 16=0:=by
  rw[zha,show nW c % 16=0 by unfold nW;omega];rfl
 constructor
 . unfold znq
   simp only[Tree.run0,Tree.run,zP,d0,d1,d2,cnF,beq_self_eq_true,Bool.not_true,zlu (l:=mk (nW c) f) (by rw[zP];omega),Option.bind_some]
 . unfold znr
   simp only[Tree.run0,Tree.run,zP,d0,d1,d2,cnF,cnT,beq_self_eq_true,Bool.not_true,List.length_nil,za0 (show(0+nW c)*4<=140737488355328 by omega)]
   exact⟨_,rfl⟩
theorem zy2{xs:List z6}{i:Nat}(h:i<xs.length):zA xs i=xs[i]:=by simp[zA,List.getD,h]
theorem zcN{xs:List z6}{i j:Nat}{y:z6}(h:i<xs.length):zA (List.set xs i y) j=if i=j then y else zA xs j:=by
 by_cases e:i=j
 . subst e;rw[if_pos rfl];simp[zA,List.getD,h]
 . rw[if_neg e];simp[zA,List.getD,List.getElem?_set,e]
theorem zCM{xs:List Int}{i j:Nat}{y:Int}(e:i ≠ j):zw (List.set xs i y) j=zw xs j:=by simp[zw,List.getD,List.getElem?_set,e]
theorem zu1{l:List z6}(hf:zyh l)(h40:l.length*40<=B47):zsL l=some l:=by
 have hB:B47=140737488351232:=rfl
 have l0:=zK (n:=l.length) (f:=fun i (xs:List z6)=>zsl l (.l0 (i:Int) xs)) (S:=fun i=>l.take i) (fun i hi=>by
  have hw:=hf.words i hi
  rw[zsm]
  simp only[zuF,zY hi,cnT,zn hi,tnC,List.nil_append,List.length_nil,List.length_singleton,List.length_take,za0 (show(0+(zA l i).words.length)*4<=140737488355328 by omega),za0 (show(min i l.length+1)*40<=140737488355328 by omega),zhl l hi (zy2 hi),zi i (show i<4611686018427387904 by omega),Tree.run])
 unfold zsL zEj
 refine(show zsl l (.l0 0 [])=_ from l0).trans ?_
 rw[zsm]
 simp only[zuF,z9 (Nat.le_refl _),cnF,List.take_length,Tree.run]
theorem zEP{l:List z6}(hf:zyh l) : ∃ y,zlc l l=some (true,y):=by
 have hB:B47=140737488351232:=rfl
 have hll:=hf.len
 obtain ⟨xs,⟨hx,_⟩,l0⟩:=zdB (n:=l.length) (f:=fun i (xs:List z6)=>zhB l l (.l0 true (i:Int) xs)) (fun i xs=>xs.length=l.length/\∀ j,i<=j->zA xs j=zA l j) (fun i hi xs ⟨hl,hx⟩=>by
  have hw:=hf.words i hi
  have hil:i<xs.length:=by omega
  have inner:=zdB (n:=(zA l i).words.length) (f:=fun k (ys:List z6)=>zhB l l (.l4 true (i:Int) (k:Int) ys)) (fun k ys=>ys.length=l.length/\(∀ j,i+1<=j->zA ys j=zA l j)/\(zA ys i).words.length=(zA l i).words.length/\∀ m,k<=m->zw (zA ys i).words m=zw (zA l i).words m) (fun k hk ys ⟨y1,y2,y3,y4⟩=>by
   have hy:i<ys.length:=by omega
   have hk3:k<(zA ys i).words.length:=by omega
   have s1:zA (List.set ys i (zA ys i)) i=zA ys i:=by rw[zcN hy,if_pos rfl]
   refine⟨List.set (List.set ys i (zA ys i)) i ⟨(zA ys i).partition,(zA ys i).epoch,List.set (zA ys i).words k 12345⟩,⟨by simp[y1],fun j hj=>?_,?_,fun m hm=>?_⟩,?_⟩
   . rw[zcN (by simpa using hy),if_neg (by omega),zcN hy,if_neg (by omega)];exact y2 j hj
   . rw[zcN (by simpa using hy),if_pos rfl]
     show(List.set _ _ _).length=_
     rw[List.length_set];exact y3
   . rw[zcN (by simpa using hy),if_pos rfl]
     show zw (List.set _ _ _) _=_
     rw[zCM (by omega)];exact y4 m (by omega)
   . rw[zi6]
     simp only[zn6,cnT,zn hi,tnC,zY hk,zn hy,zn hk3,zn hk,s1,y4 k (Nat.le_refl _),beq_self_eq_true,zi k (show k<4611686018427387904 by omega),Tree.run])
  obtain ⟨ys,⟨y1,y2,y3,y4⟩,e1⟩:=inner (List.set xs i (zA xs i)) ⟨by simp[hl],fun j hj=>by rw[zcN hil,if_neg (by omega)];exact hx j (by omega),by rw[zcN hil,if_pos rfl,hx i (Nat.le_refl _)],fun m _=>by rw[zcN hil,if_pos rfl,hx i (Nat.le_refl _)]⟩
  have hy:i<ys.length:=by omega
  refine⟨List.set ys i ⟨(zA ys i).partition,i64.wrap ((zA ys i).epoch+1),(zA ys i).words⟩,⟨?_,fun j hj=>?_⟩,?_⟩
  rotate_left 2
  . have st:zhB l l (.l0 true (i:Int) xs)=zhB l l (.l4 true (i:Int) 0 (List.set xs i (zA xs i))):=by
     rw[zi6]
     simp only[zn6,cnT,hl,zY hi,zn hi,tnC,hx i (Nat.le_refl _),beq_self_eq_true,Tree.run]
    have en:zhB l l (.l4 true (i:Int) ((zA l i).words.length:Int) ys)=zhB l l (.l0 true ((i+1:Nat):Int) (List.set ys i ⟨(zA ys i).partition,i64.wrap ((zA ys i).epoch+1),(zA ys i).words⟩)):=by
     rw[zi6]
     simp only[zn6,cnT,zn hi,tnC,z9 (Nat.le_refl _),cnF,zn hy,zi i (show i<4611686018427387904 by omega),Tree.run]
    exact st.trans (e1.trans en)
  . simp[y1]
  . rw[zcN hy,if_neg (by omega)];exact y2 j hj) l ⟨rfl,fun _ _=>rfl⟩
 unfold zlc zEl
 simp only[Tree.run,beq_self_eq_true]
 refine⟨xs,(show zhB l l (.l0 true 0 l)=_ from l0).trans ?_⟩
 rw[zi6]
 simp only[zn6,cnT,hx,z9 (Nat.le_refl _),cnF,Tree.run]
structure ztd(x:zo):Prop where
 config:zco x.config
 feeds:zyh x.feeds
 f40:x.feeds.length*40<=B47
 progs:x.programs.length<=140737488355328
 words : ∀ i j,0<=zw (zW x.programs i) j/\zw (zW x.programs i) j<4294967296
theorem zA3{x:zo}(hx:ztd x)(h:okB x.config x.feeds=true) : ∃ W:zQ,∃ l:List (List Int),zsX x=some (W,true)/\W.c=x.config/\W.s=some (zcq x.config x.feeds)/\(∀ i j,0<=zw (zW l i) j/\zw (zW l i) j<4294967296)/\W.m=some ⟨mk (nW x.config) (zcO x.config l (nP x.config))⟩/\(∀ r,zfX x.config x.programs=some r->r.2.1=0->l=x.programs):=by
 have hc:=hx.config
 have hv:zbI x.config=true:=by
  unfold okB at h
  simp only[Bool.and_eq_true]at h
  exact h.2.1
 obtain ⟨g,w⟩:=zbm hc hv
 have h1':=zrG hc
 have h2':=zu1 hx.feeds hx.f40
 have n1':=zGA hc hx.feeds h
 obtain ⟨y,y1',hy⟩:=zvr hc hx.feeds
 rw[h]at hy
 have he:zxj x.config x.feeds=0:=by
  unfold okB at h
  simp only[Bool.and_eq_true,Bool.not_eq_true',decide_eq_false_iff_not]at h
  unfold zxj
  rw[decide_eq_false h.1,h.2.1,h.2.2];rfl
 rw[he]at y1'
 obtain ⟨a,b,d,r1'⟩:=zmD hc x.config.frames x.config.major x.config.kernel x.config.room
 obtain ⟨z,z1'⟩:=zEP hx.feeds
 obtain ⟨q,b1',hb,_⟩:=ztu hc hv hx.words
 obtain ⟨q0,b0',hb0,hb00⟩:=ztu hc hv (l:=[]) (fun i j=>⟨Int.le_refl _,by show(0:Int)<_;omega⟩)
 have e33 : ∀ (q:List Int × Int × Int) (l:List (List Int)),q.1=mk (nW x.config) (zcO x.config l (nP x.config))->∃ W:zQ,zDJ x (.l33 q (y,0) (some (zcq x.config x.feeds)))=some (W,true)/\W.c=x.config/\W.s=some (zcq x.config x.feeds)/\W.m=some ⟨mk (nW x.config) (zcO x.config l (nP x.config))⟩:=fun q l hq=>by
  obtain ⟨m1',u,m2'⟩:=zAQ g w (zcO x.config l (nP x.config))
  rw[zDK]
  simp only[zGy,hq,m1',m2',Option.bind_some,beq_self_eq_true,cnT,Tree.run]
  exact⟨_,rfl,rfl,rfl,rfl⟩
 have hcd:(⟨(zcq x.config x.feeds).frames,(zcq x.config x.feeds).lay,some ((zcq x.config x.feeds).ducts.getD default),some ((zcq x.config x.feeds).devices.getD default),some ((zcq x.config x.feeds).wards.getD default)⟩:zq)=zcq x.config x.feeds:=rfl
 unfold zsX zGV
 simp only[Tree.run,h1',h2',n1',y1',r1',z1',b1',b0',Option.bind_some,zhA,hy,beq_self_eq_true,Bool.not_true,cnF,hcd]
 by_cases h0:q.2.1=0
 . have hbq:(q.2.1==0)=true:=by rw[h0];rfl
   rw[hbq]
   obtain ⟨W,e1,e2,e3,e4⟩:=e33 q _ (hb h0)
   exact⟨W,x.programs,e1,e2,e3,hx.words,e4,fun _ _ _=>rfl⟩
 . have hbq:(q.2.1==0)=false:=by simpa using h0
   rw[hbq]
   obtain ⟨W,e1,e2,e3,e4⟩:=e33 q0 [] (hb0 (hb00 (Nat.zero_le _) fun j hj=>absurd hj (Nat.not_lt_zero _)))
   exact⟨W,[],e1,e2,e3,fun i j=>⟨Int.le_refl _,by show(0:Int)<_;omega⟩,e4,fun r hr hr0=>by cases hr;exact absurd hr0 h0⟩
theorem zI1{x:zo}(hx:ztd x)(h:okB x.config x.feeds=false):zsX x=none/\∃ W:zQ,zfl x=some (W,true):=by
 have hc:=hx.config
 have h1':=zrG hc
 have h2':=zu1 hx.feeds hx.f40
 obtain ⟨n1',n2'⟩:=zGz hc hx.feeds h
 obtain ⟨y,y1',hy⟩:=zvr hc hx.feeds
 rw[h]at hy
 obtain ⟨a,b,d,r1'⟩:=zmD hc x.config.frames x.config.major x.config.kernel x.config.room
 obtain ⟨z,z1'⟩:=zEP hx.feeds
 constructor
 . unfold zsX zGV
   simp only[Tree.run,h1',h2',n1',n2',y1',r1',z1',Option.bind_some,zgo,hy,beq_self_eq_true,Bool.not_true,Bool.not_false,cnF,cnT]
 . unfold zfl zoi
   simp only[Tree.run,h1',h2',n1',n2',y1',r1',z1',Option.bind_some,zgo,hy,beq_self_eq_true,Bool.not_true,Bool.not_false,cnF,cnT]
   exact⟨_,rfl⟩
theorem zy8{x:zo}(hx:ztd x) : ∃ b,zDM x=some b:=by
 obtain ⟨b,v1'⟩:=zJv hx.config
 have hp:=hx.progs
 have hf:=hx.feeds.len
 have l4 : ∀ r i,i+r=x.feeds.length->∀ n:Int,∃ b,zBG x (.l4 n (i:Int))=some b:=by
  intro r
  induction r with
  | zero=>
   intro i hi n
   rw[zlF]
   simp only[zw9,z9 (show x.feeds.length<=i by omega),cnF,Tree.run]
   exact⟨_,rfl⟩
  | succ r ih=>
   intro i hi n
   have hi':i<x.feeds.length:=by omega
   rw[zlF]
   simp only[zw9,zY hi',cnT,zn hi',zi i (show i<4611686018427387904 by omega),Tree.run]
   cases decide (n<=2147483647)with
   | false=>exact⟨_,rfl⟩
   | true=>exact ih (i+1) (by omega) _
 have l0 : ∀ r i,i+r=x.programs.length->∀ n:Int,∃ b,zBG x (.l0 n (i:Int))=some b:=by
  intro r
  induction r with
  | zero=>
   intro i hi n
   rw[zlF]
   simp only[zw9,z9 (show x.programs.length<=i by omega),cnF,Tree.run]
   exact l4 x.feeds.length 0 (Nat.zero_add _) n
  | succ r ih=>
   intro i hi n
   have hi':i<x.programs.length:=by omega
   rw[zlF]
   simp only[zw9,zY hi',cnT,zn hi',zi i (show i<4611686018427387904 by omega),Tree.run]
   cases decide (n<=2147483647)with
   | false=>exact l4 x.feeds.length 0 (Nat.zero_add _) n
   | true=>exact ih (i+1) (by omega) _
 unfold zDM ent7
 simp only[Tree.run,v1',Option.bind_some]
 cases b with
 | true=>exact⟨_,rfl⟩
 | false=>exact l0 x.programs.length 0 (Nat.zero_add _) _
theorem zMJ(a:Int):uop .neg .i64 a=i64.wrap (0-a):=by kernel_rfl
theorem zt7{a:Int}(ha:I64 a){n:Nat}(hn:0<n) : ∃ r:Nat,r<n/\zjl a (n:Int)=some (r:Int):=by
 obtain ⟨a1,a2⟩:=ha
 have key : ∀ z:Int,0<=z->∃ r:Nat,r<n/\zvB a (n:Int) (.l7 z)=some (r:Int):=fun z hz=>by
  have e:dv .rem .i64 z (n:Int)=z % (n:Int):=Int.tmod_eq_emod_of_nonneg hz
  have h1:=Int.emod_nonneg z (show(n:Int) ≠ 0 by omega)
  have h2:=Int.emod_lt_of_pos z (show(0:Int)<n by omega)
  refine⟨(z % (n:Int)).toNat,by omega,?_⟩
  rw[zBD]
  simp only[zza,decide_eq_false (show ¬ (n:Int)=0 by omega),cnF,e,Tree.run]
  exact congrArg some (Int.toNat_of_nonneg h1).symm
 unfold zjl zEd
 by_cases h:a<0
 . simp only[Tree.run,decide_eq_true h,cnT]
   rw[zMJ,zal (a+1) (by omega) (by omega),zal (0-(a+1)) (by omega) (by omega)]
   exact key _ (by omega)
 . simp only[Tree.run,decide_eq_false h,cnF]
   exact key _ (by omega)
def zc4(o:zp):zB:=⟨⟨1000,o.r1,o.r2,o.r3,1028,1035,1042,1049,1056,1063,1070,1077,1084,1091,1098,1105⟩,u32.wrap (i64.wrap (9+o.a))⟩
def cV(i j:Nat):Int:=if j<i then 1000+7*(j:Int)else 0
def cS(i:Nat):L13:=.l0 (i:Int) (cV i 0) (cV i 1) (cV i 2) (cV i 3) (cV i 4) (cV i 5) (cV i 6) (cV i 7) (cV i 8) (cV i 9) (cV i 10) (cV i 11) (cV i 12) (cV i 13) (cV i 14) (cV i 15)
theorem zLK(o:zp) : ∀ i,i<16->(zzc o (cS i)).run (zgy o)=zgy o (cS (i+1))
 | 0,_=>by kernel_rfl
 | 1,_=>by kernel_rfl
 | 2,_=>by kernel_rfl
 | 3,_=>by kernel_rfl
 | 4,_=>by kernel_rfl
 | 5,_=>by kernel_rfl
 | 6,_=>by kernel_rfl
 | 7,_=>by kernel_rfl
 | 8,_=>by kernel_rfl
 | 9,_=>by kernel_rfl
 | 10,_=>by kernel_rfl
 | 11,_=>by kernel_rfl
 | 12,_=>by kernel_rfl
 | 13,_=>by kernel_rfl
 | 14,_=>by kernel_rfl
 | 15,_=>by kernel_rfl
 | i+16,h=>absurd h (by omega)
theorem zd7(o:zp):zhD o=some (zc4 o):=by
 have h : ∀ i,i<16->zgy o (cS i)=zgy o (cS (i+1)):=fun i hi=>by
  rw[zsh]
  exact zLK o i hi
 have h16 : ∀ i,i<=16->zgy o (cS 0)=zgy o (cS i):=by
  intro i
  induction i with
  | zero=>exact fun _=>rfl
  | succ i ih=>exact fun hi=>(ih (by omega)).trans (h i (by omega))
 have e:zgy o (cS 16)=some (zc4 o):=by
  rw[zsh]
  kernel_rfl
 unfold zhD zEf
 exact Eq.trans (show _=zgy o (cS 0)by kernel_rfl) ((h16 16 (Nat.le_refl _)).trans e)
structure zFS(o:zp):Prop where
 p:I64 o.p
 call:I64 o.call
 epoch:I64 o.epoch
 r1:0<=o.r1/\o.r1<4294967296
 r2:0<=o.r2/\o.r2<4294967296
 r3:0<=o.r3/\o.r3<4294967296
theorem zD1{N:Nat}(hN:N<=100000)(f:Nat->Int):zsJ (some ⟨mk N f⟩)=some (mk N f):=by
 unfold zsJ
 simp only[Tree.run0,Tree.run,Option.isNone_some,cnF,Option.isSome_some,cnT,Option.getD_some,zlu (l:=mk N f) (by rw[zP];omega),Option.bind_some]
section
variable {c:za} (g:zaA c) (w:zeJ c)
include g w
theorem zx7{p k:Nat}{o:zp}(hop:o.p=(p:Int))(hok:o.call=(k:Int)){t:Int}{f f':Nat->Int}(h : ∀ a,a<nW c->f' a ≠ f a->t=0/\zrb c p k a):zla c o t (mk (nW c) f) (mk (nW c) f')=some true:=by
 obtain ⟨w1,w2⟩:=zvi g w.kernel
 have l0:=zK (n:=nW c) (f:=fun i (_:Unit)=>zsi c o t (mk (nW c) f) (mk (nW c) f') (.l0 (i:Int))) (S:=fun _=>()) (fun i hi=>by
  have ho:=zDw g w.kernel (a:=i) (by omega)
  rw[zsj]
  simp only[zuE,zP,zY hi,zn hi,cnT,tnC,zbg hi,ho,Option.bind_some,beq_self_eq_true,Bool.not_true,cnF,zi i (show i<4611686018427387904 by omega),Tree.run]
  by_cases e:f' i=f i
  . rw[e,beq_self_eq_true];rfl
  . have hb:(f i==f' i)=false:=by simpa using fun h=>e h.symm
    obtain ⟨t0,hm⟩:=h i hi e
    subst t0
    rw[hb,hm o hop hok]
    rfl)
 unfold zla zEg
 simp only[Tree.run,zP,beq_self_eq_true,Bool.not_true,cnF]
 refine(show zsi c o t (mk (nW c) f) (mk (nW c) f') (.l0 0)=_ from l0).trans ?_
 rw[zsj]
 simp only[zuE,zP,z9 (Nat.le_refl _),cnF,Tree.run]
end
theorem zuq{x:zo}(hx:ztd x)(h:okB x.config x.feeds=true){script:List zp}(hl:script.length<=140737488355328)(ho : ∀ i,i<script.length->zFS (zt script i)){W:zQ}(hW1:W.c=x.config)(hW2:W.s=some (zcq x.config x.feeds)) :
 ∀ m i,i+m=script.length->∀ f,InvC x.config f->zDI x script (.l0 (W,true) (i:Int) (mk (nW x.config) f))=some true:=by
 have hc:=hx.config
 have hv:zbI x.config=true:=by
  unfold okB at h
  simp only[Bool.and_eq_true]at h
  exact h.2.1
 obtain ⟨g,w⟩:=zbm hc hv
 obtain ⟨w1,w2⟩:=zvi g w.kernel
 have hcall:=zuT (c:=x.config) hc hx.feeds g
 intro m
 induction m with
 | zero=>
  intro i hi f hI
  rw[zvE]
  simp only[zCP,z9 (show script.length<=i by omega),cnF,Tree.run]
 | succ m ih=>
  intro i hi f hI
  have hil:i<script.length:=by omega
  obtain ⟨o1,o2,o3,o4,o5,o6⟩:=ho i hil
  rw[zvE]
  simp only[zCP,zY hil,zn hil,cnT,tnC,hW1,hW2,zi i (show i<4611686018427387904 by omega),Tree.run]
  cases (zt script i).kind==4 with
  | true=>
   simp only[cnT,zuU g w hcall hI,Option.bind_some,beq_self_eq_true,Bool.not_true,cnF]
   exact ih (i+1) (by omega) _ (znE g w hcall hI)
  | false=>
   obtain ⟨p,hp,p1'⟩:=zt7 o1 (n:=nP x.config) (by have:=g.least;unfold nP;omega)
   have p2':zjl (zt script i).p (x.config.partitions.length:Int)=some (p:Int):=p1'
   obtain ⟨k,hk,k1'⟩:=zt7 o2 (n:=8) (by omega)
   have k2':zjl (zt script i).call 8=some (k:Int):=k1'
   obtain ⟨e,he,e1'⟩:=zt7 o3 (n:=1073741824) (by omega)
   have e2':zjl (zt script i).epoch 1073741824=some (e:Int):=e1'
   have d1':=zzs g w hcall hI hp (e:=(e:Int)) (by omega) hk (x:=zc4 ⟨(zt script i).kind,(p:Int),(e:Int),(k:Int),(zt script i).a,(zt script i).r1,(zt script i).r2,(zt script i).r3,(zt script i).w,(zt script i).list⟩) ⟨o4,o5,o6⟩
   obtain ⟨hI',⟨t0,t7⟩,hwall⟩:=zpZ g w hcall hI hp (e:Int) hk (zc4 ⟨(zt script i).kind,(p:Int),(e:Int),(k:Int),(zt script i).a,(zt script i).r1,(zt script i).r2,(zt script i).r3,(zt script i).w,(zt script i).list⟩)
   have v1':=zx7 g w (o:=⟨(zt script i).kind,(p:Int),(e:Int),(k:Int),(zt script i).a,(zt script i).r1,(zt script i).r2,(zt script i).r3,(zt script i).w,(zt script i).list⟩) rfl rfl hwall
   have j1:=ih (i+1) (by omega) _ hI'
   generalize cDo x.config (zdZ x.config x.feeds).feeds p (e:Int) k (zc4 ⟨(zt script i).kind,(p:Int),(e:Int),(k:Int),(zt script i).a,(zt script i).r1,(zt script i).r2,(zt script i).r3,(zt script i).w,(zt script i).list⟩) f=R at *
   obtain ⟨⟨t1,t2,t3⟩,f'⟩:=R
   dsimp only at d1' t0 t7 v1' j1
   simp only[cnF,p2',k2',e2',zD1 (N:=nW x.config) (by omega),zd7,d1',Option.bind_some]
   simp only[beq_self_eq_true,Bool.not_true,Option.bind_some,cnF,show zN 1 16=true from rfl,show zN 2 16=true from rfl,show zN 3 16=true from rfl,cnT,ztF,zc4,Bool.and_self,Bool.and_true,decide_eq_false (show ¬ t1>7 by omega),v1',j1]
   have d7:decide (t1>7)=false:=decide_eq_false (by omega)
   have fin:=congrArg (fun b=>cond b (some false) (some true)) d7
   by_cases h5:k=5
   . subst h5
     simp only[show(((5:Nat):Int)==5)=true from rfl,show Nat.beq 5 5=true from rfl,Bool.true_and,cnT,beq_self_eq_true,Bool.not_true,cnF]
     cases ht:t1==0 with
     | true=>
      simp only[cnT,Bool.not_true,cnF,beq_self_eq_true]
      exact fin
     | false=>
      simp only[cnT,Bool.not_true,Bool.not_false,cnF,beq_self_eq_true]
      exact fin
   . have hk5:(((k:Nat):Int)==5)=false:=by
      have : ¬ (k:Int)=5:=by omega
      simpa using this
     have hb5:Nat.beq k 5=false:=by
      cases hq:Nat.beq k 5 with
      | false=>rfl
      | true=>exact absurd (Nat.eq_of_beq_eq_true hq) h5
     simp only[hk5,hb5,Bool.false_and,cnF,beq_self_eq_true,Bool.not_true]
     exact fin
theorem zy6{l:List Int}(h:(l.all fun z=>decide (0<=z)&&decide (z<4294967296))=true)(j:Nat):0<=zw l j/\zw l j<4294967296:=by
 by_cases hj:j<l.length
 . have e:zw l j=l[j]:=by simp[zw,List.getD,hj]
   have:=List.all_eq_true.1 h l[j] (List.getElem_mem _)
   rw[e]
   simpa using this
 . have e:zw l j=0:=by simp[zw,List.getD,hj]
   rw[e];omega
noncomputable def kn:zo:=zBB
noncomputable abbrev knc:za:=kn.config
theorem zlz:zco knc:=by
 refine⟨by show I64 16;unfold I64;omega,by show I64 3;unfold I64;omega,by show I64 13;unfold I64;omega,by show 1*24<=B47;unfold B47;omega,fun i hi=>?_,by show 3*104<=B47;unfold B47;omega,fun i hi=>?_,fun i hi=>?_,fun i hi=>?_,by show 2*24<=B47;unfold B47;omega,fun i k hi hk=>?_⟩
 . have hi':i<1:=hi
   obtain rfl:i=0:=by omega
   show 3*24<=B47
   unfold B47;omega
 . have hi':i<3:=hi
   rcases (show i=0 ∨ i=1 ∨ i=2 by omega)with rfl | rfl | rfl <;> (show 1*32<=B47;unfold B47;omega)
 . have hi':i<3:=hi
   rcases (show i=0 ∨ i=1 ∨ i=2 by omega)with rfl | rfl | rfl
   . show 2*16<=B47
     unfold B47;omega
   . show 2*16<=B47
     unfold B47;omega
   . show 1*16<=B47
     unfold B47;omega
 . have hi':i<3:=hi
   rcases (show i=0 ∨ i=1 ∨ i=2 by omega)with rfl | rfl | rfl <;> exact of_decide_eq_true (by kernel_rfl)
 . have hi':i<3:=hi
   rcases (show i=0 ∨ i=1 ∨ i=2 by omega)with rfl | rfl | rfl <;> (
    have hk':k<1:=hk
    obtain rfl:k=0:=by omega
    first
     | exact⟨by show I64 0;unfold I64;omega,by show I64 1;unfold I64;omega⟩
     | exact⟨by show I64 1;unfold I64;omega,by show I64 1;unfold I64;omega⟩
     | exact⟨by show I64 2;unfold I64;omega,by show I64 1;unfold I64;omega⟩)
theorem kn_fit:ztd kn:=by
 refine⟨zlz,⟨of_decide_eq_true (by kernel_rfl),fun i hi=>?_⟩,of_decide_eq_true (by kernel_rfl),of_decide_eq_true (by kernel_rfl),fun i j=>?_⟩
 . have hi':i<1:=hi
   obtain rfl:i=0:=by omega
   exact of_decide_eq_true (by kernel_rfl)
 . match i with
   | 0=>exact zy6 (l:=[0,0,0,0,7,8]) (by kernel_rfl) j
   | i+1=>exact zy6 (l:=[]) rfl j
theorem zMB:okB knc kn.feeds=true:=by kernel_rfl
theorem zrL:zbI knc=true:=by kernel_rfl
theorem zDh:((List.range 6).all fun a=>decide (0<=zaV (P knc 0) a))=true:=by kernel_rfl
noncomputable def kw0:Nat->Int:=zcO knc kn.programs (nP knc)
noncomputable abbrev kE:List (zR × List Int):=(zdZ knc kn.feeds).feeds
noncomputable def kw2:Nat->Int:=(cDo knc kE 0 0 1 (zc4 ⟨0,0,0,0,0,0,4,2,0,[]⟩) kw0).2
noncomputable def kw3:Nat->Int:=zbd knc kw2 (nC knc)
noncomputable def kw4:Nat->Int:=(cDo knc kE 2 1 2 (zc4 ⟨0,0,0,0,0,0,9,0,0,[]⟩) kw3).2
noncomputable def kw5:Nat->Int:=(cDo knc kE 0 2 5 (zc4 ⟨0,0,0,0,0,88,0,0,0,[]⟩) kw4).2
theorem kv1:(cDo knc kE 0 3 4 (zc4 ⟨0,0,0,0,0,0,0,0,0,[]⟩) kw0).1=(0,77,0):=by kernel_rfl
theorem kv2:(cDo knc kE 0 0 1 (zc4 ⟨0,0,0,0,0,0,4,2,0,[]⟩) kw0).1=(0,0,0):=by kernel_rfl
theorem kv4:(cDo knc kE 2 1 2 (zc4 ⟨0,0,0,0,0,0,9,0,0,[]⟩) kw3).1=(0,2,1):=by kernel_rfl
theorem kv5:(cDo knc kE 0 2 5 (zc4 ⟨0,0,0,0,0,88,0,0,0,[]⟩) kw4).1=(0,0,0):=by kernel_rfl
theorem kr1:kw5 41=7:=by kernel_rfl
theorem kr2:kw5 42=8:=by kernel_rfl
theorem zC4:zDL=some true:=by
 obtain ⟨g,w⟩:=zbm zlz zrL
 obtain ⟨q,b1',hb,hb2⟩:=ztu zlz zrL kn_fit.words
 obtain ⟨W,l,o1,hWc,hWs,hlu,hWm,hlp⟩:=zA3 kn_fit zMB
 have hl:l=kn.programs:=hlp q b1' (hb2 (of_decide_eq_true (by kernel_rfl)) fun j hj=>by
  have hj':j<1:=hj
  obtain rfl:j=0:=by omega
  refine⟨of_decide_eq_true (by kernel_rfl),fun a ha=>?_⟩
  have ha':a<6:=ha
  exact of_decide_eq_true (List.all_eq_true.1 zDh a (List.mem_range.2 ha')))
 subst hl
 have o1':zsX zBB=some (W,true):=o1
 have hcall:=zuT (c:=knc) zlz kn_fit.feeds g
 have hm:W.m=some ⟨mk (nW knc) kw0⟩:=hWm
 have hI0:InvC knc kw0:=zrl g w (fun p hp=>(zg3 g hp).2.2.1.1) hlu
 have p0:0<nP knc:=of_decide_eq_true (by kernel_rfl)
 have p2:2<nP knc:=of_decide_eq_true (by kernel_rfl)
 have z0:(0:Int)<=0/\(0:Int)<4294967296:=by omega
 have d1':zfn (some (zcq knc kn.feeds)) 0 3 4 (zc4 ⟨0,0,0,0,0,0,0,0,0,[]⟩) (mk (nW knc) kw0)=some (ztF (zc4 ⟨0,0,0,0,0,0,0,0,0,[]⟩) (0,77,0),0,false,0,⟨mk (nW knc) kw0⟩):=by
  have h:=zzs g w hcall hI0 p0 (e:=3) (by omega) (k:=4) (by omega) (x:=zc4 ⟨0,0,0,0,0,0,0,0,0,[]⟩) ⟨z0,z0,z0⟩
  rw[kv1]at h
  exact h
 have d2':zfn (some (zcq knc kn.feeds)) 0 0 1 (zc4 ⟨0,0,0,0,0,0,4,2,0,[]⟩) (mk (nW knc) kw0)=some (ztF (zc4 ⟨0,0,0,0,0,0,4,2,0,[]⟩) (0,0,0),0,false,0,⟨mk (nW knc) kw2⟩):=by
  have h:=zzs g w hcall hI0 p0 (e:=0) (by omega) (k:=1) (by omega) (x:=zc4 ⟨0,0,0,0,0,0,4,2,0,[]⟩) ⟨z0,by show(0:Int)<=4/\(4:Int)<4294967296;omega,by show(0:Int)<=2/\(2:Int)<4294967296;omega⟩
  rw[kv2]at h
  exact h
 have hI2:InvC knc kw2:=(zpZ g w hcall hI0 p0 0 (by omega) _).1
 have t3':zuk (some (zcq knc kn.feeds)) (mk (nW knc) kw2)=some (0,⟨mk (nW knc) kw3⟩):=zuU g w hcall hI2
 have hI3:InvC knc kw3:=znE g w hcall hI2
 have d4':zfn (some (zcq knc kn.feeds)) 2 1 2 (zc4 ⟨0,0,0,0,0,0,9,0,0,[]⟩) (mk (nW knc) kw3)=some (ztF (zc4 ⟨0,0,0,0,0,0,9,0,0,[]⟩) (0,2,1),0,false,0,⟨mk (nW knc) kw4⟩):=by
  have h:=zzs g w hcall hI3 p2 (e:=1) (by omega) (k:=2) (by omega) (x:=zc4 ⟨0,0,0,0,0,0,9,0,0,[]⟩) ⟨z0,by show(0:Int)<=9/\(9:Int)<4294967296;omega,z0⟩
  rw[kv4]at h
  exact h
 have hI4:InvC knc kw4:=(zpZ g w hcall hI3 p2 1 (by omega) _).1
 have d5':zfn (some (zcq knc kn.feeds)) 0 2 5 (zc4 ⟨0,0,0,0,0,88,0,0,0,[]⟩) (mk (nW knc) kw4)=some (ztF (zc4 ⟨0,0,0,0,0,88,0,0,0,[]⟩) (0,0,0),88,true,0,⟨mk (nW knc) kw5⟩):=by
  have h:=zzs g w hcall hI4 p0 (e:=2) (by omega) (k:=5) (by omega) (x:=zc4 ⟨0,0,0,0,0,88,0,0,0,[]⟩) ⟨by show(0:Int)<=88/\(88:Int)<4294967296;omega,z0,z0⟩
  rw[kv5]at h
  exact h
 have hN:=(zih g w).2
 have r1':zey (some ⟨mk (nW knc) kw5⟩) 41=some (7,0):=(zj6 (f:=kw5) (a:=41) (by omega) (of_decide_eq_true (by kernel_rfl))).trans (by rw[kr1])
 have r2':zey (some ⟨mk (nW knc) kw5⟩) 42=some (8,0):=(zj6 (f:=kw5) (a:=42) (by omega) (of_decide_eq_true (by kernel_rfl))).trans (by rw[kr2])
 have y1':zhE (some (zp0 knc)) 0 1=some (⟨1,true⟩,true):=(zgZ g w (zzu knc) 0 1).trans (by kernel_rfl)
 have y2':znt (some (zp0 knc)) 0 1=some (1,138,true):=by
  unfold znt
  simp only[Tree.run0,Tree.run,y1',Option.bind_some]
  kernel_rfl
 have y3':zvM (some (zcq knc kn.feeds)) 0 1 (zc4 ⟨0,0,0,0,0,1,0,0,0,[]⟩)=some ([50,138],0):=by
  have hwr:zpf (some (zcq knc kn.feeds)) 0 1=some 0:=by kernel_rfl
  have hlk:znt ((zcq knc kn.feeds).ducts) 0 (i64.wrap (zc4 ⟨0,0,0,0,0,1,0,0,0,[]⟩).regs.e1)=some (1,138,true):=y2'
  have hl : ∀ z,zvD (some (zcq knc kn.feeds)) 0 1 (zc4 ⟨0,0,0,0,0,1,0,0,0,[]⟩) (.l29 z)=some (z,0):=fun z=>by
   rw[zBF]
   simp only[zzd,Tree.run]
  unfold zvM zEh
  simp only[Tree.run,Option.isNone_some,cnF,hwr,Option.bind_some,beq_self_eq_true,Bool.not_true,Option.isSome_some,cnT,Option.getD_some,hlk,hl]
  exact Eq.trans (by kernel_rfl) rfl
 unfold zDL zGU
 simp only[Tree.run,o1',zhA,hWs,hm,Bool.not_true,cnF,Option.isNone_some,zd7,Option.bind_some,Option.getD_some,d1']
 rw[zeI]
 simp only[zf4,Tree.run,zd7,Option.bind_some,hWs,d2']
 rw[zeI]
 simp only[zf4,Tree.run,Option.bind_some,hWs,t3']
 rw[zeI]
 simp only[zf4,Tree.run,zd7,Option.bind_some,hWs,d4']
 rw[zeI]
 simp only[zf4,Tree.run,zd7,Option.bind_some,hWs,d5']
 rw[zeI]
 simp only[zf4,Tree.run,Option.bind_some,r1',r2']
 rw[zeI]
 simp only[zf4,Tree.run,zd7,Option.bind_some,hWs,y3']
 rw[zeI]
 simp only[zf4,Tree.run,beq_self_eq_true,Bool.not_true,cnF]
 rw[zeI]
 exact Eq.trans (by kernel_rfl) rfl
theorem zmi{x:zo}(hx:ztd x){script:List zp}(hl:script.length<=140737488355328)(ho : ∀ i,i<script.length->zFS (zt script i)):zJk x script=some true:=by
 obtain ⟨b,b1'⟩:=zy8 hx
 unfold zJk ent3
 simp only[Tree.run,zC4,Option.bind_some,Bool.not_true,cnF,b1']
 cases b with
 | true=>rfl
 | false=>
  cases h:okB x.config x.feeds with
  | false=>
   obtain ⟨f1,W,f2⟩:=zI1 hx h
   simp only[cnF,f1,zgo,f2,Option.bind_some,Bool.not_true]
  | true=>
   obtain ⟨W,l,o1',hWc,hWs,hlu,hWm,_⟩:=zA3 hx h
   have hv:zbI x.config=true:=by
    unfold okB at h
    simp only[Bool.and_eq_true]at h
    exact h.2.1
   obtain ⟨g,w⟩:=zbm hx.config hv
   have hI:=zrl g w (fun p hp=>(zg3 g hp).2.2.1.1) hlu
   simp only[cnF,o1',zhA,Bool.not_true,hWs,Option.isNone_some,hWm,Option.getD_some]
   exact zuq hx h hl ho hWc hWs script.length 0 (Nat.zero_add _) _ hI
theorem zlx{n:Int}(h:Fit (.v (.int .u32 n))):0<=n/\n<4294967296:=by
 cases h with
 | int _ _ h0 h1=>
  simp[IntKind.min,IntKind.max,IntKind.signed,IntKind.bits]at h0 h1
  exact⟨by omega,by omega⟩
theorem zAc{l:List Int}(h:Fit (.sl (.i .u32) l))(j:Nat):0<=zw l j/\zw l j<4294967296:=by
 by_cases hj:j<l.length
 . exact zlx ((zca h).2 j 0 hj (by decide))
 . have:zw l j=0:=by simp[zw,List.getD,hj]
   rw[this];omega
theorem fitS{x:zo}(h : ∀ j,j<Ty.sz .sBulkheadlaw25Start->Fit ((Ty.enc .sBulkheadlaw25Start x).getD j .undef)):ztd x:=by
 obtain ⟨p1,p2⟩:=zca (t:=.sl (.i .u32)) (xs:=x.programs) (h 7 (by decide))
 obtain ⟨f1,f2⟩:=zca (t:=.sFeed) (xs:=x.feeds) (h 8 (by decide))
 have hB:B47=140737488351232:=rfl
 have p1':x.programs.length*24<=B47:=p1
 have f1':x.feeds.length*40<=B47:=f1
 refine⟨fitC fun j hj=>?_,⟨by omega,fun i hi=>(zca (t:=.i .u32) (xs:=(zA x.feeds i).words) (f2 i 2 hi (by decide))).1⟩,f1',by omega,fun i j=>?_⟩
 . have hj7:j<7:=hj
   match j,hj7 with
   | 0,_=>exact h 0 (by decide)
   | 1,_=>exact h 1 (by decide)
   | 2,_=>exact h 2 (by decide)
   | 3,_=>exact h 3 (by decide)
   | 4,_=>exact h 4 (by decide)
   | 5,_=>exact h 5 (by decide)
   | 6,_=>exact h 6 (by decide)
 . by_cases hi:i<x.programs.length
   . exact zAc (l:=zW x.programs i) (p2 i 0 hi (by decide)) j
   . have:zW x.programs i=[]:=by simp[zW,List.getD,hi]
     rw[this]
     exact zmo j
theorem zN6{xs:List zp}(h:Fit (.sl .sBulkheadlaw25Op xs))(i:Nat)(hi:i<xs.length):zFS (zt xs i):=
 ⟨zeF ((zca h).2 i 1 hi (by decide)),zeF ((zca h).2 i 3 hi (by decide)),zeF ((zca h).2 i 2 hi (by decide)),zlx ((zca h).2 i 5 hi (by decide)),zlx ((zca h).2 i 6 hi (by decide)),zlx ((zca h).2 i 7 hi (by decide))⟩
end Go.Proofs.YtgajeebphoiphaaGreatDoor
end
