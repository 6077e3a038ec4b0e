import Derived.Test.YtgajeebphoiphaaGreatDoorFF
set_option linter.unusedVariables false
set_option linter.unusedSimpArgs false
set_option linter.unusedSectionVars false
noncomputable section
open Go.IntKind (i64 u32)
namespace Go.Proofs.YtgajeebphoiphaaGreatDoor
open Go.RowKit
theorem zDZ{f:Nat->Int}{a i:Nat}{z:Int}(h:over f a 1 (fun _=>z) i ≠ f i):i=a:=by
 unfold over at h
 split at h
 . omega
 . exact absurd rfl h
theorem zBw{f:Nat->Int}{a:Nat}{z:Int}:over f a 1 (fun _=>z) a=z:=if_pos (by omega)
section
variable {c:za} (g:zaz c) (w:zei c)
include g w
theorem zr4{f f':Nat->Int}(hg:GoodW c f)(hu:U32 f')(h : ∀ a,cAt c 0<=a->a<cAt c (nC c)->f' a=f a):GoodW c f':=by
 refine⟨hu,fun k hk=>zcl (g.chan k hk).1 (fun i hi=>?_) (hg.st k hk),fun k hk j hj=>zcg (g.chan k hk).1 (fun i hi=>?_) (hg.pt k hk j hj)⟩
 . have h1:=zhM c k
   have h2:=zcT c (show k+1<=nC c by omega)
   have h3:=zeS c k
   have h4:=zcd c k
   exact(h _ (by omega) (by omega)).symm
 . have h1:=zi4 c hj
   have h2:=zcT c (show k+1<=nC c by omega)
   have h3:=zeS c k
   have h4:=zcd c k
   have h5:=zi5 c k j
   exact(h _ (by omega) (by omega)).symm
omit g w in
theorem zuP{q:Nat}(hq:q<nP c):stA c q+5<=cAt c 0:=by
 have h4:pAt c q=16*kF0 c+2+24*q:=rfl
 have h2:cAt c 0=16*kF0 c+2+24*nP c:=rfl
 unfold stA;omega
theorem InvC.frame{f f':Nat->Int}(hI:InvC c f)(hw:GoodW c f')(ht : ∀ a,cAt c (nC c)<=a->a<16*tF c (nP c)->f' a=f a)(hs : ∀ q i,q<nP c->i<5->f' (stA c q+i)=f (stA c q+i)):InvC c f':=by
 refine⟨hw,fun p hp a ha=>?_,fun p hp=>?_⟩
 . obtain ⟨h1,h2⟩:=zpP g w hp ha
   have h3:tF c 0=(cAt c (nC c)+15) / 16:=rfl
   have h4:tF c 0<=tF c p:=zll c p
   have h5:=ha.1
   rw[ht a (by omega) h2]
   exact hI.tab p hp a ha
 . rw[show f' (stA c p)=f (stA c p)from hs p 0 hp (by omega),hs p 1 hp (by omega),hs p 2 hp (by omega),hs p 3 hp (by omega),hs p 4 hp (by omega)]
   exact hI.st p hp
theorem InvC.state{f:Nat->Int}(hI:InvC c f){p i:Nat}(hp:p<nP c){z:Int}(hz:(i=0/\(z=1 ∨ z=3)) ∨ (i=4/\0<=z/\z<=(P c p).qW)):InvC c (over f (stA c p+i) 1 fun _=>z):=by
 have hi:i<5:=by omega
 have h1:=zuP hp
 obtain ⟨_,_,o1,_⟩:=zhb g hp
 have hc:cAt c 0<=cAt c (nC c):=zeS c _
 have hz2:0<=z/\z<4294967296:=by omega
 refine⟨zr4 g w hI.w (zeu hI.w.u fun _ _=>hz2) fun a h2 h3=>zaB (by omega),fun q hq a ha=>?_,fun q hq=>?_⟩
 . have:=zpQ ha
   have e:pAt c (nP c)=cAt c 0:=rfl
   rw[zaB (by omega)]
   exact hI.tab q hq a ha
 . have hst:=hI.st q hq
   have hne : ∀ j,j<5->¬ (q=p/\j=i)->over f (stA c p+i) 1 (fun _=>z) (stA c q+j)=f (stA c q+j):=fun j hj hn=>zaB (by
    have h4:pAt c q=16*kF0 c+2+24*q:=rfl
    have h5:pAt c p=16*kF0 c+2+24*p:=rfl
    unfold stA
    intro h
    exact hn ⟨by omega,by omega⟩)
   by_cases e:q=p
   . subst e
     rcases hz with ⟨rfl,hz⟩ | ⟨rfl,hz⟩
     . rw[hne 1 (by omega) (by omega),hne 2 (by omega) (by omega),hne 3 (by omega) (by omega),hne 4 (by omega) (by omega)]
       refine⟨?_,hst.2⟩
       rw[Nat.add_zero,zBw]
       rcases hz with h | h
       . exact .inr (.inl h)
       . exact .inr (.inr h)
     . have h0:over f (stA c q+4) 1 (fun _=>z) (stA c q)=f (stA c q):=hne 0 (by omega) (by omega)
       rw[hne 1 (by omega) (by omega),hne 2 (by omega) (by omega),hne 3 (by omega) (by omega),h0,zBw]
       exact⟨hst.1,hst.2.1,hst.2.2.1,hst.2.2.2.1,hz.2⟩
   . have h0:over f (stA c p+i) 1 (fun _=>z) (stA c q)=f (stA c q):=hne 0 (by omega) (by omega)
     rw[hne 1 (by omega) (by omega),hne 2 (by omega) (by omega),hne 3 (by omega) (by omega),hne 4 (by omega) (by omega),h0]
     exact hst
def InR(c:za)(p i y:Nat):Prop:=i<(P c p).qe.length/\(zi (P c p).qe i).frame<=((y / 16:Nat):Int)/\((y / 16:Nat):Int)<(zi (P c p).qe i).frame+(zi (P c p).qe i).qc
theorem InvC.reg{f:Nat->Int}(hI:InvC c f){p i y:Nat}(hp:p<nP c)(hy:InR c p i y){z:Int}(hz:0<=z/\z<4294967296):InvC c (over f y 1 fun _=>z):=by
 have hf:=zqK g w hp hy.1 hy.2.1 hy.2.2
 have h1:cAt c 0=16*kF0 c+2+24*nP c:=rfl
 have h3:tF c 0=(cAt c (nC c)+15) / 16:=rfl
 have h4:tF c 0<=tF c (nP c):=zll c _
 have h5:cAt c 0<=cAt c (nC c):=zeS c _
 refine hI.frame g w (zr4 g w hI.w (zeu hI.w.u fun _ _=>hz) fun a h6 h7=>zaB (by omega)) (fun a h6 h7=>zaB (by omega)) fun q i hq hi=>zaB ?_
 have:=zuP hq
 have h6:pAt c q=16*kF0 c+2+24*q:=rfl
 unfold stA at this ⊢
 omega
theorem zvV{p i p' i' y:Nat}(hp:p<nP c)(hp':p'<nP c)(h:InR c p i y)(h':InR c p' i' y):p'=p/\i'=i:=by
 have key : ∀ {p i p' i'},p<nP c->p'<nP c->InR c p i y->InR c p' i' y->p'<p ∨ (p'=p/\i'<i)->False:=fun {p i p' i'} hp hp' h h' hl=>by
  have hb:=g.regb p i hp h.1
  simp only[zhx,qH,Bool.not_eq_true']at hb
  have h2:=any_f.1 (any_f.1 hb.2 p' (by omega)) i' h'.1
  have hx:=(g.qz p i hp h.1)
  have hx':=(g.qz p' i' hp' h'.1)
  obtain ⟨a1,a2⟩:=hx.ok.qc
  have a3:=hx.frame
  have a4:=hx.fits
  obtain ⟨b1,b2⟩:=hx'.ok.qc
  have b3:=hx'.frame
  have b4:=hx'.fits
  have hf:=g.qr
  unfold Rg at a1 a2 a3 a4 b1 b2 b3 b4
  have:=zA5 (a:=(zi (P c p).qe i).frame) (m:=(zi (P c p).qe i).qc) (b:=(zi (P c p').qe i').frame) (o:=(zi (P c p').qe i').qc) (x:=((y / 16:Nat):Int)) (by omega) (by omega) ⟨h.2.1,h.2.2⟩ ⟨h'.2.1,h'.2.2⟩
  unfold zcX Rg at h2
  rw[this]at h2
  have:(decide (p'<p) || decide (i'<i))=true:=by
   rcases hl with h | h
   . simp[h]
   . simp[h.2]
  rw[this]at h2
  cases h2
 rcases Nat.lt_trichotomy p' p with l | l | l
 . exact(key hp hp' h h' (.inl l)).elim
 . subst l
   rcases Nat.lt_trichotomy i' i with l | l | l
   . exact(key hp hp' h h' (.inr ⟨rfl,l⟩)).elim
   . exact⟨rfl,l⟩
   . exact(key hp' hp h' h (.inr ⟨rfl,l⟩)).elim
 . exact(key hp' hp h' h (.inl l)).elim
theorem zvL{p i y:Nat}(hp:p<nP c)(hy:InR c p i y):own c y=⟨1,(p:Int),0⟩:=by
 have hf:=zqK g w hp hy.1 hy.2.1 hy.2.2
 have hn:(zaG c).find? (fun x=>inP x y)=none:=List.find?_eq_none.2 fun x hx hin=>by
  have h1:=(zmo c).in_ x hx
  have h2:=inP_iff.1 hin
  omega
 have hr:zBL c (y / 16)=some p:=by
  unfold zBL
  have hq : ∀ q,q<nP c->((List.range (zaI c q)).any (zhy c (y / 16) q)=true ↔ q=p):=fun q hq=>by
   rw[any_t]
   constructor
   . rintro ⟨k,hk,h⟩
     unfold zhy Rg at h
     simp only[qH,qG]at h
     exact(zvV g w hp hq hy ⟨hk,h.1,h.2⟩).1
   . rintro rfl
     refine⟨i,hy.1,?_⟩
     unfold zhy Rg
     simp only[qH,qG]
     exact hy.2
  cases h:(List.range (nP c)).find? fun q=>(List.range (zaI c q)).any (zhy c (y / 16) q)with
  | none=>
   have:=List.find?_eq_none.1 h p (qF.2 hp)
   exact absurd ((hq p hp).2 rfl) this
  | some q=>
   have h1:=qF.1 (List.mem_of_find?_eq_some h)
   have h2:(List.range (zaI c q)).any (zhy c (y / 16) q)=true:=List.find?_some (p:=fun q=>(List.range (zaI c q)).any (zhy c (y / 16) q)) h
   rw[(hq q h1).1 h2]
 unfold own
 rw[hn]
 dsimp only
 rw[hr]
theorem zBR{p i y:Nat}(hp:p<nP c)(hy:InR c p i y)(hy2:y<100000):zwk c (p:Int) (y:Int)=some (zi (P c p).qe i).qv:=by
 have h8:=(zcL g hp).few
 have h:=zfk (l:=List.range (P c p).qe.length) (f:=fun i=>zv7 c (p:Int) (y:Int) (.l0 (i:Int))) (q:=fun k=>zhy c (y / 16) p k) (g:=fun k=>some (zi (P c p).qe k).qv) (e:=some 0) (fun k hk=>by
  rw[List.length_range]at hk
  rw[List.getElem_range]
  obtain ⟨r1,r2,r3,r4⟩:=zBM g hp hk
  have hkk':k<(zb c.qq p).qe.length:=hk
  have d4:i64.wrap ((zi (zb c.qq p).qe k).frame+(zi (zb c.qq p).qe k).qc)=(Rg c p k).frame+(Rg c p k).qc:=r4
  rw[zs5]
  simp only[zvg,tnC,zo (show p<c.qq.length from hp),zY hkk',zo hkk',cnT,zch y (by omega),d4,zj k (show k<4611686018427387904 by omega),zfb,Tree.run]
  rfl) (by
  rw[List.length_range,zs5]
  have hf:decide (((P c p).qe.length:Int)<((zb c.qq p).qe.length:Int))=false:=z8 (qD)
  simp only[zvg,tnC,zo (show p<c.qq.length from hp),hf,cnT,cnF,Tree.run])
 unfold zwk zE8
 refine Eq.trans h ?_
 cases hq:(List.range (P c p).qe.length).find? (fun k=>zhy c (y / 16) p k)with
 | none=>
  have:=List.find?_eq_none.1 hq i (qF.2 hy.1)
  refine absurd ?_ this
  unfold zhy Rg
  simp only[qH,qG]
  exact hy.2
 | some k=>
  have h1:=qF.1 (List.mem_of_find?_eq_some hq)
  have h2:zhy c (y / 16) p k=true:=List.find?_some (p:=fun k=>zhy c (y / 16) p k) hq
  unfold zhy Rg at h2
  simp only[qH,qG]at h2
  rw[(zvV g w hp hp hy ⟨h1,h2.1,h2.2⟩).2]
theorem zNk{p q:Nat}(hp:p<nP c)(hq:q<zaa c p){k:Nat}(hk:(Pt c p q).ql=(k:Int))(hs:(Pt c p q).qb=true):znH c (p:Int) (k:Int) true=some true:=by
 have h8:=g.few.qt p hp
 have h:=zao (n:=zaa c p) (f:=fun i=>zs4 c (p:Int) (k:Int) true (.l0 (i:Int))) (q:=fun i=>((Pt c p i).ql==(k:Int))&&((Pt c p i).qb==true)) (r:=some true) (e:=some false) (fun i hi=>by
  have hi':i<(zb c.qq p).qt.length:=hi
  rw[zjk]
  simp only[zok,tnC,zo (show p<c.qq.length from hp),zY hi',zo hi',cnT,zj i (show i<4611686018427387904 by omega),zfb,Tree.run]
  rfl) (by
  have hf:decide ((zaa c p:Int)<((zb c.qq p).qt.length:Int))=false:=z8 (qD)
  rw[zjk]
  simp only[zok,tnC,zo (show p<c.qq.length from hp),hf,cnT,cnF,Tree.run])
 unfold znH zAs
 refine Eq.trans h ?_
 have:(List.range (zaa c p)).any (fun i=>((Pt c p i).ql==(k:Int))&&((Pt c p i).qb==true))=true:=any_t.2 ⟨q,hq,by rw[hk,hs];simp⟩
 rw[this];rfl
end
theorem zyv:((List.range 8).all fun r=>!(bop .andNot .i64 2 (r:Int)==0) || (bop .rem .i64 (bop .quo .i64 (r:Int) 2) 2==1))=true:=by kernel_rfl
theorem zCI{r:Int}(h:0<=r/\r<=7)(hr:bop .andNot .i64 2 r=0):(bop .rem .i64 (bop .quo .i64 r 2) 2==1)=true:=by
 obtain ⟨n,rfl⟩ : ∃ n:Nat,r=(n:Int):=⟨r.toNat,by omega⟩
 have:=List.all_eq_true.1 zyv n (qF.2 (by omega))
 rw[hr]at this
 simpa using this
theorem zBW{x:zI}{h:Nat->Int}{m:List Int}(e:(zdH x h m).1=false):(zdH x h m).2=h:=by
 unfold zdH at e ⊢
 split
 . rename_i h2
   rw[if_pos h2]at e
   split
   . rfl
   . rename_i h3
     rw[if_neg h3]at e
     cases e
 . rename_i h2
   rw[if_neg h2]at e
   cases e
theorem zwD{l m:List Int}{h:Nat->Int}{a:Nat} : ∀ n,wrF l m h n a ≠ h a->∃ i,i<n/\a=(zt l i).toNat
 | 0,e=>absurd rfl e
 | n + 1,e=>by
  by_cases hn:a=(zt l n).toNat
  . exact⟨n,by omega,hn⟩
  . obtain ⟨i,hi,ha⟩:=zwD n (fun e2=>e (by
     show over (wrF l m h n) (zt l n).toNat 1 _ a=_
     rw[zaB (by omega)];exact e2))
    exact⟨i,by omega,ha⟩
def ztK(c:za)(p k a:Nat):Prop:=∀ o:zq,o.p=(p:Int)->o.call=(k:Int)->znC c o 0 (a:Int) (own c a)=some true
section
variable {c:za} (g:zaz c) (w:zei c) {s:zr} {D:zG} {d:zR} {v:zae} (hs:zlU c s D d v) {f:Nat->Int} (hI:InvC c f) {p:Nat} (hp:p<nP c)
include g w hs hI hp
omit hs hI hp in
theorem zoV{p i:Nat}(hp:p<nP c)(hi:i<5):own c (stA c p+i)=⟨5,(p:Int),0⟩:=zqC (ref_mem.2 (.state hp)) (inP_iff.2 (show pAt c p+19<=stA c p+i/\stA c p+i<pAt c p+19+5 by unfold stA;omega))
omit hs hI hp in
theorem zxR{p i k:Nat}(hp:p<nP c)(hi:i<5)(hk:k=0 ∨ k=5 ∨ k=7):ztK c p k (stA c p+i):=fun o h1 h2=>by
 unfold znC
 rw[zoV g w hp hi,h1,h2]
 rcases hk with rfl | rfl | rfl <;> simp only[Tree.run0,Tree.run,qI,Bool.not_true,cnF,cnT,show(((0:Nat):Int)==0)=true from rfl,show(((5:Nat):Int)==0)=false from rfl,show(((5:Nat):Int)==7)=false from rfl,show(((5:Nat):Int)==5)=true from rfl,show(((7:Nat):Int)==0)=false from rfl,show(((7:Nat):Int)==7)=true from rfl]
omit hI hp in
theorem zo7{p q:Int}{m:List Int}{a:Nat}(h:(zgC c p q m f).2 a ≠ f a):(zgC c p q m f).1=0/\∃ p' q' k:Nat,p=(p':Int)/\p'<nP c/\q'<zaa c p'/\(Pt c p' q').ql=(k:Int)/\(Pt c p' q').qb=true/\zC2 c k a:=by
 unfold zgC at h ⊢
 cases hq:zbk c p q with
 | none=>rw[hq]at h;exact absurd rfl h
 | some x=>
  obtain ⟨p',q',k,rfl,rfl,hp',hq',rfl,hk1,hk⟩:=za6 g w hs.duc hq
  rw[hq]at h
  dsimp only at h ⊢
  cases hsrc:(Pt c p' q').qb with
  | false=>rw[hsrc]at h;exact absurd rfl h
  | true=>
   rw[hsrc]at h
   rw[hk1,tnC]at h ⊢
   dsimp only [cnT]at h ⊢
   split at h
   . exact absurd rfl h
   . rename_i hm
     rw[if_neg hm]
     unfold zye at h ⊢
     dsimp only at h ⊢
     cases hr:(zdH (Ch c k) (stW c f k) m).1 with
     | false=>
      rw[zBW hr]at h
      exact absurd (congrFun (zmD f _ _) a) h
     | true=>
      refine⟨rfl,p',q',k,rfl,hp',hq',hk1,hsrc,hk,?_⟩
      by_cases hc:sAt c k<=a/\a<sAt c k+stg (Ch c k)
      . exact hc
      . exact absurd (zaB hc) h
omit hI hp in
theorem zpK{p q:Int}{a:Nat}(h:zfw c p q f a ≠ f a) : ∃ p' q' k j:Nat,p=(p':Int)/\p'<nP c/\zC0 c k j a/\zZ (dl c k) j=⟨(p':Int),(q':Int)⟩:=by
 unfold zfw at h
 cases hq:zbk c p q with
 | none=>rw[hq]at h;exact absurd rfl h
 | some x=>
  obtain ⟨p',q',k,rfl,rfl,hp',hq',rfl,hk1,hk⟩:=za6 g w hs.duc hq
  rw[hq]at h
  dsimp only at h
  cases hsrc:(Pt c p' q').qb with
  | true=>rw[hsrc]at h;exact absurd rfl h
  | false=>
   rw[hsrc,hk1,tnC]at h
   dsimp only [cnF]at h
   split at h
   . obtain ⟨j1,j2,_⟩:=zp0 g w hs.duc hk (zcV hp' hq' hk1 hsrc)
     refine⟨p',q',k,_,rfl,hp',⟨hk,j1,?_⟩,j2⟩
     by_cases hc:psC c k (zcC c k p' q')<=a/\a<psC c k (zcC c k p' q')+prt (Ch c k)
     . exact hc
     . exact absurd (zaB hc) h
   . exact absurd rfl h
omit g w hs hI hp in
theorem zvx{k a:Nat}(h:zC2 c k a):cAt c 0<=a/\a<cAt c (nC c):=by
 obtain ⟨h0,h1,h2⟩:=h
 have h3:=zhM c k
 have h4:=zcT c (show k+1<=nC c by omega)
 have h5:=zeS c k
 have h6:=zcd c k
 omega
omit g w hs hI hp in
theorem zvw{k j a:Nat}(h:zC0 c k j a):cAt c 0<=a/\a<cAt c (nC c):=by
 obtain ⟨h0,hj,h1,h2⟩:=h
 have h3:=zi4 c hj
 have h4:=zcT c (show k+1<=nC c by omega)
 have h5:=zeS c k
 have h6:=zcd c k
 have h7:=zi5 c k j
 omega
omit hs hp in
theorem InvC.chan{f':Nat->Int}(hw:GoodW c f')(h : ∀ a,f' a ≠ f a->cAt c 0<=a/\a<cAt c (nC c)):InvC c f':=by
 refine hI.frame g w hw (fun a h1 _=>?_) fun q i hq hi=>?_
 . by_cases e:f' a=f a
   . exact e
   . have:=h a e;omega
 . by_cases e:f' (stA c q+i)=f (stA c q+i)
   . exact e
   . have:=h _ e
     have:=zuP hq
     omega
theorem zyb (x:zB):InvC c (ze9 c p x f).2/\∀ a,(ze9 c p x f).2 a ≠ f a->(ze9 c p x f).1=0/\ztK c p 1 a:=by
 unfold ze9
 by_cases h0:(zc0 c p x.qz.e1).2=0
 . rw [if_pos h0]
   by_cases h3:x.qz.e3=0 ∨ x.qz.e3>(zc0 c p x.qz.e1).1
   . rw[if_pos h3];exact⟨hI,fun a h=>absurd rfl h⟩
   . rw [if_neg h3]
     cases zeQ c p 1 x.qz.e2 x.qz.e3.toNat with
     | none=>exact⟨hI,fun a h=>absurd rfl h⟩
     | some l=>
      dsimp only
      obtain ⟨_,hgw'⟩:=zBX g w hs.duc (hI.part g w hs.duc hp).w x.qz.e1 (zFm hI.w.u l)
      have hgw:=hgw' hI.w
      refine⟨InvC.chan g w hI hgw fun a h=>?_,fun a h=>?_⟩
      . obtain ⟨_,_,_,_,_,_,_,_,_,hst⟩:=zo7 g w hs h
        exact zvx hst
      . obtain ⟨t0,p',q',k,hpp,hp',hq',hk1,hsrc,hst⟩:=zo7 g w hs h
        refine⟨t0,fun o h1 h2=>?_⟩
        have e:p'=p:=by omega
        subst e
        have hh:=zNk g w hp' hq' hk1 hsrc
        unfold znC
        rw[zoU hst.1 hst.2,h1,h2]
        simp only[Tree.run0,Tree.run,qI,Bool.not_true,cnF,cnT,show(((1:Nat):Int)==0)=false from rfl,show(((1:Nat):Int)==7)=false from rfl,show(((1:Nat):Int)==5)=false from rfl,show(((1:Nat):Int)==1)=true from rfl,hh,qY]
 . rw[if_neg h0];exact⟨hI,fun a h=>absurd rfl h⟩
theorem zx6(x:zB):InvC c (zeK c p x f).2/\∀ a,a<nW c->(zeK c p x f).2 a ≠ f a->(zeK c p x f).1.1=0/\ztK c p 2 a:=by
 unfold zeK
 by_cases h0:(zcw c p x.qz.e1 f).1=0
 . rw [if_pos h0]
   cases hl:zeQ c p 2 x.qz.e2 (zcw c p x.qz.e1 f).2.1.length with
   | none=>exact⟨hI,fun a _ h=>absurd rfl h⟩
   | some l=>
    dsimp only
    obtain ⟨_,hgw'⟩:=zCD g w hs.duc (hI.part g w hs.duc hp).w x.qz.e1
    have hgw:=hgw' hI.w
    obtain ⟨_,_,hmu⟩:=zqu g w hs (hI.part g w hs.duc hp) x.qz.e1
    obtain ⟨l1,l2⟩:=zfy g w hp hl
    have hreg : ∀ i,i<l.length->∃ y j,zt l i=((y:Nat):Int)/\y<nW c/\InR c p j y/\bop .andNot .i64 2 (zi (P c p).qe j).qv=0:=fun i hi=>by
     have hat:zt l i=l[i]:=by simp[zt,List.getD,hi]
     obtain ⟨b,hb⟩:=l2 l[i] (List.getElem_mem _)
     obtain ⟨y,j,hy,hy2,hj,h1,h2,h3⟩:=zlX g w hp hb
     exact⟨y,j,hat.trans hy,hy2,⟨hj,h1,h2⟩,h3⟩
    have hIt:InvC c (zfw c p x.qz.e1 f):=InvC.chan g w hI hgw fun a h=>by
     obtain ⟨_,_,_,_,_,_,hpt,_⟩:=zpK g w hs h
     exact zvw hpt
    have hIw : ∀ n,n<=l.length->InvC c (wrF l (zcw c p x.qz.e1 f).2.1 (zfw c p x.qz.e1 f) n):=by
     intro n
     induction n with
     | zero=>exact fun _=>hIt
     | succ n ih=>
      intro hn
      obtain ⟨y,j,hy,_,hr,_⟩:=hreg n (by omega)
      show InvC c (over _ (zt l n).toNat 1 _)
      rw[hy,tnC]
      exact(ih (by omega)).reg g w hp hr (hmu n)
    refine⟨hIw _ (qD),fun a haN h=>⟨rfl,?_⟩⟩
    by_cases hw:wrF l (zcw c p x.qz.e1 f).2.1 (zfw c p x.qz.e1 f) l.length a=zfw c p x.qz.e1 f a
    . rw[hw]at h
      obtain ⟨p',q',k,j,hpp,hp',hpt,hjd⟩:=zpK g w hs h
      have e:p'=p:=by omega
      subst e
      intro o h1 h2
      unfold znC
      rw[zsu hpt.1 hpt.2.1 hpt.2.2,hjd,h1,h2]
      simp only[Tree.run0,Tree.run,qI,Bool.not_true,cnF,cnT,show(((2:Nat):Int)==0)=false from rfl,show(((2:Nat):Int)==7)=false from rfl,show(((2:Nat):Int)==5)=false from rfl,show(((2:Nat):Int)==1)=false from rfl,show(((2:Nat):Int)==2)=true from rfl,show((8:Int)==1)=false from rfl]
    . obtain ⟨i,hi,ha⟩:=zwD _ hw
      obtain ⟨y,j,hy,hy2,hr,hbit⟩:=hreg i hi
      rw[hy,tnC]at ha
      subst ha
      obtain ⟨r1,r2,_⟩:=zh8 g hp j hr.1
      have hN:=(zgZ g w).2
      intro o h1 h2
      unfold znC
      rw[zvL g w hp hr,h1,h2]
      simp only[Tree.run0,Tree.run,qI,Bool.not_true,cnF,cnT,show(((2:Nat):Int)==0)=false from rfl,show(((2:Nat):Int)==7)=false from rfl,show(((2:Nat):Int)==5)=false from rfl,show(((2:Nat):Int)==1)=false from rfl,show(((2:Nat):Int)==2)=true from rfl,zBR g w hp hr (by omega),qY,zCI ⟨r1,r2⟩ hbit]
 . rw[if_neg h0];exact⟨hI,fun a _ h=>absurd rfl h⟩
theorem zqj(e:Int){k:Nat}(hk:k<8)(x:zB):InvC c (cDo c d.qi p e k x f).2/\(0<=(cDo c d.qi p e k x f).1.1/\(cDo c d.qi p e k x f).1.1<=7)/\∀ a,a<nW c->(cDo c d.qi p e k x f).2 a ≠ f a->(cDo c d.qi p e k x f).1.1=0/\ztK c p k a:=by
 have hsame : ∀ t:Int,(0<=t/\t<=7)->InvC c f/\(0<=t/\t<=7)/\∀ a,a<nW c->f a ≠ f a->t=0/\ztK c p k a:=fun t ht=>⟨hI,ht,fun a _ h=>absurd rfl h⟩
 have hst : ∀ (i:Nat) (z:Int),(i=0/\(z=1 ∨ z=3)) ∨ (i=4/\0<=z/\z<=(P c p).qW)->(k=0 ∨ k=5 ∨ k=7)->InvC c (over f (stA c p+i) 1 fun _=>z)/\((0:Int)<=0/\(0:Int)<=7)/\∀ a,a<nW c->over f (stA c p+i) 1 (fun _=>z) a ≠ f a->(0:Int)=0/\ztK c p k a:=fun i z hz hk=>⟨hI.state g w hp hz,rgc 0 7 rfl,fun a _ h=>⟨rfl,by rw[zDZ h];exact zxR g w hp (by omega) hk⟩⟩
 rcases (show k=0 ∨ k=1 ∨ k=2 ∨ k=3 ∨ k=4 ∨ k=5 ∨ k=6 ∨ k=7 by omega)with rfl | rfl | rfl | rfl | rfl | rfl | rfl | rfl
 . exact hst 0 1 (.inl ⟨rfl,.inl rfl⟩) (.inl rfl)
 . obtain ⟨h1,h2⟩:=zyb g w hs hI hp x
   refine⟨h1,?_,fun a _ h=>h2 a h⟩
   show 0<=(ze9 c p x f).1/\(ze9 c p x f).1<=7
   obtain ⟨r1,r2⟩:=zsF g w hs x.qz.e1 p
   unfold ze9
   split
   . split
     . exact rgc 3 7 rfl
     . split
       . exact rgc 4 7 rfl
       . rename_i l _
         obtain ⟨t1,t2⟩:=zv1 g w hs x.qz.e1 p (l.map fun z=>f z.toNat) f
         exact⟨t1,by omega⟩
   . dsimp only;omega
 . obtain ⟨h1,h2⟩:=zx6 g w hs hI hp x
   refine⟨h1,?_,h2⟩
   show 0<=(zeK c p x f).1.1/\(zeK c p x f).1.1<=7
   obtain ⟨r1,_⟩:=zqu g w hs (hI.part g w hs.duc hp) x.qz.e1
   unfold zeK
   split
   . split
     . exact rgc 4 7 rfl
     . exact rgc 0 7 rfl
   . dsimp only;omega
 . obtain ⟨t1,t2⟩:=zwt g w hs (hI.part g w hs.duc hp) hp x.qz.e1
   exact hsame (zhA c p x.qz.e1 f).1 ⟨t1,by omega⟩
 . exact hsame _ (zAM g w hs (hI.part g w hs.duc hp) hp _ _ _ _)
 . obtain ⟨u1,u2⟩:=hI.w.u (stA c p+4)
   show InvC c (zeT c p f).2/\(0<=(zeT c p f).1/\(zeT c p f).1<=7)/\∀ a,a<nW c->(zeT c p f).2 a ≠ f a->(zeT c p f).1=0/\ztK c p 5 a
   unfold zeT
   split
   . exact hsame 5 (rgc 5 7 rfl)
   . rename_i h
     exact hst 4 _ (.inr ⟨rfl,by omega,by omega⟩) (.inr (.inl rfl))
 . exact hsame 0 (rgc 0 7 rfl)
 . exact hst 0 3 (.inl ⟨rfl,.inr rfl⟩) (.inr (.inr rfl))
omit hp in
theorem znP:InvC c (zbg c f (nC c)):=InvC.chan g w hI (zhu g w hs.duc hI.w (nC c) (qD)).1 fun a h=>by
 by_cases h1 : ∃ k,zC2 c k a
 . obtain ⟨k,hk⟩:=h1;exact zvx hk
 . by_cases h2 : ∃ k j,zC0 c k j a
   . obtain ⟨k,j,hk⟩:=h2;exact zvw hk
   . exact absurd (zuR g w hs.duc hI.w (fun k hk=>h1 ⟨k,hk⟩) (fun k j hk=>h2 ⟨k,j,hk⟩) (nC c) (qD)) h
end
theorem zdD{σ R:Type}{n:Nat}{f:Nat->σ->Option R}(I:Nat->σ->Prop)(hs : ∀ i,i<n->∀ s,I i s->∃ s',I (i+1) s'/\f i s=f (i+1) s') : ∀ s,I 0 s->∃ s',I n s'/\f 0 s=f n s':=by
 intro s h0
 have : ∀ k,k<=n->∃ s',I k s'/\f 0 s=f k s':=by
  intro k
  induction k with
  | zero=>exact fun _=>⟨s,h0,rfl⟩
  | succ k ih=>
   intro hk
   obtain ⟨s1,h1,e1⟩:=ih (by omega)
   obtain ⟨s2,h2,e2⟩:=hs k (by omega) s1 h1
   exact⟨s2,h2,e1.trans e2⟩
 exact this n (Nat.le_refl n)
theorem zzu{xs:List (List zan)}{i:Nat}(h:i<xs.length):zD xs i=xs[i]:=by simp[zD,List.getD,h]
theorem zzv{xs:List zf}{i:Nat}(h:i<xs.length):zb xs i=xs[i]:=by simp[zb,List.getD,h]
theorem zr5{c:za}(hc:zcr c):ztc c=some c:=by
 have hB:B47=140737488351232:=rfl
 have h1:=hc.qp
 have h2:=hc.parts
 have h3:=hc.chans
 have l0:=zK (n:=c.qp.length) (f:=fun i (xs:List (List zan))=>zm7 c (.l0 (i:Int) xs)) (S:=fun i=>c.qp.take i) (fun i hi=>by
  have hci:=hc.core i hi
  rw[zjb]
  simp only[zoh,zY hi,cnT,zo hi,tnC,List.nil_append,List.length_nil,qO,List.length_take,zaZ (show(0+(zD c.qp i).length)*24<=140737488355328 by omega),zaZ (show(min i c.qp.length+1)*24<=140737488355328 by omega),zht c.qp hi (zzu hi),zj i (show i<4611686018427387904 by omega),Tree.run,qY])
 have l4:=zK (n:=c.qq.length) (f:=fun i (xs:List zf)=>zm7 c (.l4 (i:Int) c.qp xs)) (S:=fun i=>c.qq.take i) (fun i hi=>by
  have hr:=hc.qe i hi
  have hp:=hc.qt i hi
  rw[zjb]
  simp only[zoh,zY hi,cnT,zo hi,tnC,List.nil_append,List.length_nil,qO,List.length_take,zaZ (show(0+(zb c.qq i).qe.length)*32<=140737488355328 by omega),zaZ (show(0+(zb c.qq i).qt.length)*16<=140737488355328 by omega),zaZ (show(min i c.qq.length+1)*104<=140737488355328 by omega),zht c.qq hi (zzv hi),zj i (show i<4611686018427387904 by omega),Tree.run,qY])
 unfold ztc zEK
 dsimp only [Tree.run0,Tree.run]
 refine(show zm7 c (.l0 0 [])=_ from l0).trans ?_
 rw[zjb]
 simp only[zoh,z8 (qD),cnF,List.take_length,Tree.run,qY]
 refine(show zm7 c (.l4 0 c.qp [])=_ from l4).trans ?_
 rw[zjb]
 simp only[zoh,z8 (qD),cnF,List.take_length,List.nil_append,List.length_nil,zaZ (show(0+c.qw.length)*24<=140737488355328 by omega),cnT,id,Tree.run,qY]
theorem zJU{p:zf}(hr:p.qe.length<4611686018427387904)(hp:p.qt.length<4611686018427387904):ztg p p=some true:=by
 have l0:=zK (n:=p.qe.length) (f:=fun i (_:Unit)=>zna p p (.l0 (i:Int))) (S:=fun _=>()) (fun i hi=>by
  rw[zji]
  simp only[zoj,zY hi,cnT,zo hi,qI,Bool.and_self,Bool.not_true,cnF,zj i (show i<4611686018427387904 by omega),Tree.run,qY])
 have l4:=zK (n:=p.qt.length) (f:=fun i (_:Unit)=>zna p p (.l4 (i:Int))) (S:=fun _=>()) (fun i hi=>by
  rw[zji]
  simp only[zoj,zY hi,cnT,zo hi,qI,Bool.and_self,Bool.not_true,cnF,zj i (show i<4611686018427387904 by omega),Tree.run,qY])
 unfold ztg zEZ
 simp only[Tree.run,qY,qI,Bool.not_true,cnF]
 refine(show zna p p (.l0 0)=_ from l0).trans ?_
 rw[zji]
 simp only[zoj,z8 (qD),cnF,Tree.run,qY]
 refine(show zna p p (.l4 0)=_ from l4).trans ?_
 rw[zji]
 simp only[zoj,z8 (qD),cnF,id,Tree.run,qY]
theorem zdy{xs:List (List zan)}{i j:Nat}{y:List zan}(h:i<xs.length):zD (List.set xs i y) j=if i=j then y else zD xs j:=by
 by_cases e:i=j
 . subst e;rw[if_pos rfl];simp[zD,List.getD,h]
 . rw[if_neg e];simp[zD,List.getD,List.getElem?_set,e]
theorem zDi{xs:List zan}{i j:Nat}{y:zan}(e:i ≠ j):zbC (List.set xs i y) j=zbC xs j:=by simp[zbC,List.getD,List.getElem?_set,e]
theorem zbV{xs:List zf}{i j:Nat}{y:zf}(h:i<xs.length):zb (List.set xs i y) j=if i=j then y else zb xs j:=by
 by_cases e:i=j
 . subst e;rw[if_pos rfl];simp[zb,List.getD,h]
 . rw[if_neg e];simp[zb,List.getD,List.getElem?_set,e]
theorem zzs{xs:List zI}{i j:Nat}{y:zI}(e:i ≠ j):zw (List.set xs i y) j=zw xs j:=by simp[zw,List.getD,List.getElem?_set,e]
theorem zmN{c:za}(hc:zcr c)(fr mj kn rm:Int) : ∃ a b d,zlg fr mj kn rm c c.qp c.qq c.qw=some (true,a,b,d):=by
 have hB:B47=140737488351232:=rfl
 have h1:=hc.qp
 have h2:=hc.parts
 have h3:=hc.chans
 -- qp
 obtain ⟨xc,⟨ic,_⟩,l0⟩:=zdD (n:=c.qp.length) (f:=fun i (xs:List (List zan))=>zcN fr mj kn rm c c.qp c.qq c.qw (.l0 true (i:Int) xs)) (fun i xs=>xs.length=c.qp.length/\∀ j,i<=j->zD xs j=zD c.qp j) (fun i hi xs ⟨hl,hx⟩=>by
  have hci:=hc.core i hi
  have hil:i<xs.length:=by omega
  have inner:=zdD (n:=(zD c.qp i).length) (f:=fun k (ys:List (List zan))=>zcN fr mj kn rm c c.qp c.qq c.qw (.l4 true (i:Int) (k:Int) ys)) (fun k ys=>ys.length=c.qp.length/\(∀ j,i+1<=j->zD ys j=zD c.qp j)/\(zD ys i).length=(zD c.qp i).length/\∀ m,k<=m->zbC (zD ys i) m=zbC (zD c.qp i) m) (fun k hk ys ⟨y1,y2,y3,y4⟩=>by
   have hy:i<ys.length:=by omega
   have hk3:k<(zD ys i).length:=by omega
   have s1:zD (List.set ys i (zD ys i)) i=zD ys i:=by rw[zdy hy,if_pos rfl]
   refine⟨List.set (List.set ys i (zD ys i)) i (List.set (zD ys i) k ⟨-1,1,0⟩),⟨by simp[y1],fun j hj=>?_,?_,fun m hm=>?_⟩,?_⟩
   . rw[zdy (by simpa using hy),if_neg (by omega),zdy hy,if_neg (by omega)];exact y2 j hj
   . rw[zdy (by simpa using hy),if_pos rfl,List.length_set];exact y3
   . rw[zdy (by simpa using hy),if_pos rfl,zDi (by omega)];exact y4 m (by omega)
   . rw[zbX]
     simp only[zeJ,cnT,zo hi,tnC,zY hk,zo hy,zo hk3,zo hk,s1,y4 k (qD),qI,Bool.and_self,zj k (show k<4611686018427387904 by omega),Tree.run,qY])
  obtain ⟨ys,⟨y1,y2,y3,y4⟩,e1⟩:=inner (List.set xs i (zD xs i)) ⟨by simp[hl],fun j hj=>by rw[zdy hil,if_neg (by omega)];exact hx j (by omega),by rw[zdy hil,if_pos rfl,hx i (qD)],fun m _=>by rw[zdy hil,if_pos rfl,hx i (qD)]⟩
  refine⟨ys,⟨y1,y2⟩,?_⟩
  have st:zcN fr mj kn rm c c.qp c.qq c.qw (.l0 true (i:Int) xs)=zcN fr mj kn rm c c.qp c.qq c.qw (.l4 true (i:Int) 0 (List.set xs i (zD xs i))):=by
   rw[zbX]
   simp only[zeJ,cnT,zY hi,zo hil,zo hi,tnC,hx i (qD),qI,Tree.run,qY]
  have en:zcN fr mj kn rm c c.qp c.qq c.qw (.l4 true (i:Int) ((zD c.qp i).length:Int) ys)=zcN fr mj kn rm c c.qp c.qq c.qw (.l0 true ((i+1:Nat):Int) ys):=by
   rw[zbX]
   simp only[zeJ,cnT,zo hi,tnC,z8 (qD),cnF,zj i (show i<4611686018427387904 by omega),Tree.run,qY]
  exact st.trans (e1.trans en)) c.qp ⟨rfl,fun _ _=>rfl⟩
 -- qq
 obtain ⟨xp,_,l8⟩:=zdD (n:=c.qq.length) (f:=fun i (xs:List zf)=>zcN fr mj kn rm c c.qp c.qq c.qw (.l8 true (i:Int) xc xs)) (fun i xs=>xs.length=c.qq.length/\∀ j,i<=j->zb xs j=zb c.qq j) (fun i hi xs ⟨hl,hx⟩=>by
  have hr:=hc.qe i hi
  have hp:=hc.qt i hi
  have hil:i<xs.length:=by omega
  have k1':ztg (zb c.qq i) (zb c.qq i)=some true:=zJU (p:=zb c.qq i) (by omega) (by omega)
  let J:List zf->Prop:=fun ys=>ys.length=c.qq.length/\(∀ j,i+1<=j->zb ys j=zb c.qq j)/\(zb ys i).qe.length=(zb c.qq i).qe.length/\(zb ys i).qt.length=(zb c.qq i).qt.length
  have m12:=zdD (n:=(zb c.qq i).qe.length) (f:=fun k (ys:List zf)=>zcN fr mj kn rm c c.qp c.qq c.qw (.l12 true (i:Int) (k:Int) xc ys)) (fun k ys=>J ys) (fun k hk ys ⟨y1,y2,y3,y4⟩=>by
   have hy:i<ys.length:=by omega
   have hk3:k<(zb ys i).qe.length:=by omega
   refine⟨_,⟨?_,fun j hj=>?_,?_,?_⟩,by
    rw[zbX]
    simp only[zeJ,cnT,zo hi,tnC,zY hk,zo hy,zo hk3,zj k (show k<4611686018427387904 by omega),Tree.run,qY]
    rfl⟩
   . simp[y1]
   . rw[zbV hy,if_neg (by omega)];exact y2 j hj
   . rw[zbV hy,if_pos rfl,List.length_set];exact y3
   . rw[zbV hy,if_pos rfl];exact y4)
  have m16:=zdD (n:=(zb c.qq i).qt.length) (f:=fun k (ys:List zf)=>zcN fr mj kn rm c c.qp c.qq c.qw (.l16 true (i:Int) (k:Int) xc ys)) (fun k ys=>J ys) (fun k hk ys ⟨y1,y2,y3,y4⟩=>by
   have hy:i<ys.length:=by omega
   have hk3:k<(zb ys i).qt.length:=by omega
   refine⟨_,⟨?_,fun j hj=>?_,?_,?_⟩,by
    rw[zbX]
    simp only[zeJ,cnT,zo hi,tnC,zY hk,zo hy,zo hk3,zj k (show k<4611686018427387904 by omega),Tree.run,qY]
    rfl⟩
   . simp[y1]
   . rw[zbV hy,if_neg (by omega)];exact y2 j hj
   . rw[zbV hy,if_pos rfl];exact y3
   . rw[zbV hy,if_pos rfl,List.length_set];exact y4)
  have e8 : ∃ ys,J ys/\zcN fr mj kn rm c c.qp c.qq c.qw (.l8 true (i:Int) xc xs)=zcN fr mj kn rm c c.qp c.qq c.qw (.l12 true (i:Int) 0 xc ys):=by
   refine⟨_,⟨?_,fun j hj=>?_,?_,?_⟩,by
    rw[zbX]
    simp only[zeJ,cnT,zY hi,zo hil,zo hi,tnC,hx i (qD),k1',Tree.run,qY]
    rfl⟩
   . simp[hl]
   . rw[zbV (by simpa using hil),if_neg (by omega),zbV hil,if_neg (by omega)];exact hx j (by omega)
   . rw[zbV (by simpa using hil),if_pos rfl]
   . rw[zbV (by simpa using hil),if_pos rfl,zbV hil,if_pos rfl]
  obtain ⟨ya,ja,ea⟩:=e8
  obtain ⟨yb,jb,eb⟩:=m12 ya ja
  have ec:zcN fr mj kn rm c c.qp c.qq c.qw (.l12 true (i:Int) ((zb c.qq i).qe.length:Int) xc yb)=zcN fr mj kn rm c c.qp c.qq c.qw (.l16 true (i:Int) 0 xc yb):=by
   rw[zbX]
   simp only[zeJ,cnT,zo hi,tnC,z8 (qD),cnF,Tree.run,qY]
  obtain ⟨yd,⟨j1,j2,j3,j4⟩,ed⟩:=m16 yb jb
  have hy:i<yd.length:=by omega
  refine⟨_,⟨?_,fun j hj=>?_⟩,ea.trans (eb.trans (ec.trans (ed.trans (by
   rw[zbX]
   simp only[zeJ,cnT,zo hi,tnC,z8 (qD),cnF,zo hy,zj i (show i<4611686018427387904 by omega),Tree.run,qY]
   rfl))))⟩
  . simp[j1]
  . rw[zbV hy,if_neg (by omega)];exact j2 j hj) c.qq ⟨rfl,fun _ _=>rfl⟩
 -- qw
 obtain ⟨xh,_,l20⟩:=zdD (n:=c.qw.length) (f:=fun i (xs:List zI)=>zcN fr mj kn rm c c.qp c.qq c.qw (.l20 true (i:Int) xc xp xs)) (fun i xs=>xs.length=c.qw.length/\∀ j,i<=j->zw xs j=zw c.qw j) (fun i hi xs ⟨hl,hx⟩=>by
  have hil:i<xs.length:=by omega
  refine⟨List.set xs i ⟨i64.wrap (3-(zw c.qw i).kind),1,1⟩,⟨by simp[hl],fun j hj=>by rw[zzs (by omega)];exact hx j (by omega)⟩,?_⟩
  rw[zbX]
  simp only[zeJ,cnT,zY hi,zo hil,zo hi,tnC,hx i (qD),qI,Bool.and_self,zj i (show i<4611686018427387904 by omega),Tree.run,qY]) c.qw ⟨rfl,fun _ _=>rfl⟩
 refine⟨xc,xp,xh,?_⟩
 unfold zlg zEM
 simp only[Tree.run,qY,qI,cnT]
 refine(show zcN fr mj kn rm c c.qp c.qq c.qw (.l0 true 0 c.qp)=_ from l0).trans ?_
 rw[zbX]
 simp only[zeJ,cnT,z8 (qD),cnF,Tree.run,qY]
 refine(show zcN fr mj kn rm c c.qp c.qq c.qw (.l8 true 0 xc c.qq)=_ from l8).trans ?_
 rw[zbX]
 simp only[zeJ,cnT,z8 (qD),cnF,Tree.run,qY]
 refine(show zcN fr mj kn rm c c.qp c.qq c.qw (.l20 true 0 xc xp c.qw)=_ from l20).trans ?_
 rw[zbX]
 simp only[zeJ,cnT,z8 (qD),cnF,id,Tree.run,qY]
theorem zbq{c:za}(hc:zcr c)(hv:zbK c=true):zaz c/\zei c:=by
 unfold zbK at hv
 rw[qH]at hv
 have g:=zqs hc hv.1
 exact⟨g,zDL g hv.2⟩
noncomputable def zBx(c:za)(i:Nat):zf:=⟨ByteArray.mk #[],0,0,0,0,0,[],(P c i).qt⟩
noncomputable def zqk(c:za):zG:=⟨⟨c.qr,0,0,0,[],(List.range (nP c)).map (zBx c),c.qw⟩,lay c⟩
theorem zzU(c:za):zod c (zqk c):=⟨rfl,rfl,by simp[zqk],fun p hp=>by
 have:zb (zqk c).c.qq p=zBx c p:=by simp[zqk,zb,List.getD,hp]
 rw[this];rfl,rfl⟩
theorem zuo{c:za}(g:zaz c)(w:zei c){p:Nat}(hp:p<nP c):zn (lay c).qq p=full c p/\(lay c).qq.length=nP c:=⟨(zqE hp).trans (if_pos hp),zi3 c _⟩
theorem zNv{c:za}(hc:zcr c)(hv:zbK c=true):znF c=some (zqk c,0):=by
 have hB:B47=140737488351232:=rfl
 have h2:=hc.parts
 have h3:=hc.chans
 obtain ⟨g,w⟩:=zbq hc hv
 obtain ⟨r,hr,hr2⟩:=zjC hc
 rw[hv]at hr2
 have k1':zdK c=some r:=hr
 have l1':zc4 c=some (lay c,0):=zsd g w.kernel
 have l0:=zK (n:=nP c) (f:=fun i (xs:List zf)=>zsS c (.l0 (lay c,0) (i:Int) xs)) (S:=fun i=>(List.range i).map (zBx c)) (fun i hi=>by
  have hi':i<c.qq.length:=hi
  have hp:=hc.qt i hi'
  have e:(List.range (i+1)).map (zBx c)=(List.range i).map (zBx c)++[⟨ByteArray.mk #[],0,0,0,0,0,[],(zb c.qq i).qt⟩]:=by rw[List.range_succ,List.map_append];rfl
  rw[zsT]
  simp only[zva,zY hi',cnT,zo hi',tnC,List.nil_append,List.length_nil,qO,List.length_map,List.length_range,zaZ (show(0+(zb c.qq i).qt.length)*16<=140737488355328 by omega),zaZ (show(i+1)*104<=140737488355328 by omega),zj i (show i<4611686018427387904 by omega),e,Tree.run])
 unfold znF zEU
 simp only[Tree.run,qY,k1',hr2,l1',Bool.not_true,cnT,cnF,qI,List.length_nil,zaZ (show(0+c.qw.length)*24<=140737488355328 by omega)]
 refine(show zsS c (.l0 (lay c,0) 0 [])=_ from l0).trans ?_
 have hf:decide ((nP c:Int)<(c.qq.length:Int))=false:=z8 (qD)
 rw[zsT]
 simp only[zva,hf,cnF,List.nil_append,Tree.run]
 rfl
noncomputable def zCH(c:za)(i:Nat):zX:=⟨full c i,u32.wrap (P c i).entry,u32.wrap (P c i).qR,u32.wrap (P c i).qW,⟨(),()⟩⟩
noncomputable def zuU(c:za):zae:=⟨c.qr,(List.range (nP c)).map (zCH c)⟩
theorem zKb{c:za}(g:zaz c):ztN c (zuU c):=by
 have hat : ∀ p,p<nP c->zaC (zuU c).qh p=zCH c p:=fun p hp=>by simp[zuU,zaC,List.getD,hp]
 refine⟨rfl,by simp[zuU],fun p hp=>by rw[hat p hp];rfl,fun p hp=>?_,fun p hp=>?_⟩
 . rw[hat p hp];exact(zlQ _).1
 . rw[hat p hp]
   obtain ⟨_,_,o1,_⟩:=zhb g hp
   exact zbR (by omega) (by omega)
theorem zAK{c:za}(hc:zcr c)(hv:zbK c=true):zgT c=some (zuU c,0):=by
 obtain ⟨g,w⟩:=zbq hc hv
 have hP:nP c<=8:=g.few.parts
 obtain ⟨r,hr,hr2⟩:=zjC hc
 rw[hv]at hr2
 have k1':zdK c=some r:=hr
 have l1':zc4 c=some (lay c,0):=zsd g w.kernel
 have l0:=zK (n:=nP c) (f:=fun i (xs:Nat × List zX)=>zsU c (.l0 (lay c,0) (i:Int) xs.1 xs.2)) (S:=fun i=>(i,(List.range i).map (zCH c))) (fun i hi=>by
  have hi':i<c.qq.length:=hi
  obtain ⟨p1,p2⟩:=zuo g w hi
  have e:(List.range (i+1)).map (zCH c)=(List.range i).map (zCH c)++[(⟨full c i,u32.wrap (zb c.qq i).entry,u32.wrap (zb c.qq i).qR,u32.wrap (zb c.qq i).qW,⟨(),()⟩⟩:zX)]:=by rw[List.range_succ,List.map_append];rfl
  have em:Nat.max (i+1) (Nat.max i 0)=i+1:=by
   rw[show Nat.max i 0=i from Nat.max_zero i]
   exact Nat.max_eq_left (by omega)
  rw[zsV]
  simp only[zvb,zY hi',cnT,zo hi',tnC,p1,p2,zo hi,show Nat.ble i i=true from Nat.ble_eq_true_of_le (qD),Bool.and_self,qO,List.length_map,List.length_range,zaZ (show(i+1)*88<=140737488355328 by omega),zj i (show i<4611686018427387904 by omega),e,em,Tree.run])
 unfold zgT zEV
 simp only[Tree.run,qY,k1',hr2,l1',Bool.not_true,cnF,qI]
 refine(show zsU c (.l0 (lay c,0) 0 0 [])=_ from l0).trans ?_
 have hf:decide ((nP c:Int)<(c.qq.length:Int))=false:=z8 (qD)
 rw[zsV]
 simp only[zvb,hf,cnF,Tree.run]
 rfl
theorem zBS{c:za}(hc:zcr c)(hv:zbK c=true):(∃ y,zwg c=some y)/\(∃ y,zwh c=some y)/\∃ L:zaR,zgU c=some (L,0)/\L.end_=(tF c (nP c):Int)/\L.qq=plT c (nP c):=by
 obtain ⟨r,hr,hr2⟩:=zlR hc
 have k1':zfv c=some r:=hr
 rw[hv]at hr2
 obtain ⟨g,w⟩:=zbq hc hv
 have hL:=zDX g w.kernel
 obtain ⟨L,l1',_⟩:=zDX g w.kernel
 refine⟨?_,?_,hL⟩
 . unfold zwg
   simp only[Tree.run0,Tree.run,k1',hr2,l1',Bool.not_true,cnF,qY]
   exact⟨_,rfl⟩
 . unfold zwh
   simp only[Tree.run0,Tree.run,k1',hr2,l1',Bool.not_true,cnF,qY,qI]
   exact⟨_,rfl⟩
theorem zJ9{c:za}(hc:zcr c) : ∃ b,zB7 c=some b:=by
 have hB:B47=140737488351232:=rfl
 have h1:=hc.qp
 have h2:=hc.parts
 have l4 : ∀ r i,i+r=c.qq.length->∀ x:Int,∃ b,zsN c (.l4 x (i:Int))=some b:=by
  intro r
  induction r with
  | zero=>
   intro i hi x
   rw[zja]
   simp only[zog,z8 (show c.qq.length<=i by omega),cnF,id,Tree.run,qY]
   exact⟨_,rfl⟩
  | succ r ih=>
   intro i hi x
   have hi':i<c.qq.length:=by omega
   rw[zja]
   simp only[zog,zY hi',cnT,zo hi',zj i (show i<4611686018427387904 by omega),id,Tree.run,qY]
   cases decide (x<=2147483647)with
   | false=>exact⟨_,rfl⟩
   | true=>exact ih (i+1) (by omega) _
 have l0 : ∀ r i,i+r=c.qp.length->∀ x:Int,∃ b,zsN c (.l0 x (i:Int))=some b:=by
  intro r
  induction r with
  | zero=>
   intro i hi x
   rw[zja]
   simp only[zog,z8 (show c.qp.length<=i by omega),cnF,id,Tree.run,qY]
   exact l4 c.qq.length 0 (Nat.zero_add _) x
  | succ r ih=>
   intro i hi x
   have hi':i<c.qp.length:=by omega
   rw[zja]
   simp only[zog,zY hi',cnT,zo hi',zj i (show i<4611686018427387904 by omega),id,Tree.run,qY]
   cases decide (x<=2147483647)with
   | false=>exact l4 c.qq.length 0 (Nat.zero_add _) x
   | true=>exact ih (i+1) (by omega) _
 exact l0 c.qp.length 0 (Nat.zero_add _) _
theorem zG6{R:Type}{b1 b2 b3 b4 b5 gd:Bool}(hg:b1=true->b2=true->gd=true)(x y:Option R):cond (!b1) x (cond (!b2) x (cond (!b3) x (cond (!b4) x (cond gd (cond (!b5) x y) none))))=cond (!(b1&&b2&&b3&&b4&&b5)) x y:=by
 cases b1 <;> cases b2 <;> first | rfl | (rw[hg rfl rfl];cases b3 <;> cases b4 <;> cases b5 <;> rfl)
theorem dlt(a b:Int):decide (a<b)=!decide (b<=a):=by
 by_cases h:a<b
 . rw[decide_eq_true h,decide_eq_false (by omega)];rfl
 . rw[decide_eq_false h,decide_eq_true (by omega)];rfl
theorem zuu{K V:Type}{q:K->Bool}(k:K)(v:V)(E:List (K × V)):zes (fun x=>some (q x)) ((k,v) :: E)=cond (q k) (some (some v)) (zes (fun x=>some (q x)) E):=by
 unfold zes
 simp only[mix]
 rw[zsk E]
 cases q k with
 | true=>rfl
 | false=>cases E.findIdx? fun e=>q e.1 <;> rfl
theorem zoO{K V:Type}{q:K->Bool} : ∀ E:List (K × V),∃ r,zes (fun x=>some (q x)) E=some r/\r.isSome=E.any fun e=>q e.1
 | []=>⟨none,rfl,rfl⟩
 | (k,v) :: E=>by
  obtain ⟨r,h1,h2⟩:=zoO E
  rw[zuu,List.any_cons]
  cases q k with
  | true=>exact⟨_,rfl,rfl⟩
  | false=>exact⟨r,h1,by simpa using h2⟩
theorem zsl{K V:Type}{q:K->Bool}(k:K)(v:V){E:List (K × V)}(h:(E.any fun e=>q e.1)=false):zn5 (fun x=>some (q x)) false k v E=some (E++[(k,v)]):=by
 unfold zn5
 rw[zsk]
 cases hf:E.findIdx? fun e=>q e.1 with
 | none=>rfl
 | some j=>
  have:(E.findIdx? fun e=>q e.1).isSome=E.any fun e=>q e.1:=List.findIdx?_isSome
  rw[hf,h]at this
  cases this
def zub{K V:Type}(q:K->Bool)(E:List (K × V)):List (K × V):=match E.findIdx? fun e=>q e.1 with | none=>E | some j=>E.eraseIdx j
theorem zHY{K V:Type}{q:K->Bool}(E:List (K × V)):zqw (fun x=>some (q x)) E=some (zub q E):=by
 unfold zqw zub
 rw[zsk]
 cases E.findIdx? fun e=>q e.1 <;> rfl
theorem zzS{K V:Type}{q:K->Bool}{E:List (K × V)}{e:K × V}(h:e ∈ zub q E):e ∈ E:=by
 unfold zub at h
 split at h
 . exact h
 . exact List.mem_of_mem_eraseIdx h
noncomputable def fdB(c:za)(l:List z7)(i:Nat):Bool:=decide (0<=(zA l i).qk)&&!decide ((nP c:Int)<=(zA l i).qk)&&decide (0<=(zA l i).qu)&&!decide (1073741824<=(zA l i).qu)&&!decide ((P c (zA l i).qk.toNat).qE<((zA l i).qx.length:Int))
noncomputable def zn4(l:List z7)(i:Nat)(x:zQ):Bool:=((zA l i).qk==x.qk)&&(((zA l i).qu==x.qu)&&true)
noncomputable def fdM(l:List z7)(i:Nat):List (zQ × List Int):=(List.range i).map fun k=>(⟨(zA l k).qk,(zA l k).qu⟩,(zA l k).qx)
noncomputable def twB(l:List z7)(i:Nat):Bool:=(fdM l i).any fun e=>zn4 l i e.1
noncomputable def fdQ(c:za)(l:List z7)(i:Nat):Bool:=twB l i || !(fdB c l i)
noncomputable def zdL(c:za)(l:List z7):Bool:=!((List.range l.length).any (fdQ c l))
noncomputable def fdE(l:List z7):Nat->List (zQ × List Int)
 | 0=>fdM l l.length
 | i+1=>if(zA l i).qx.length=0 then zub (zn4 l i) (fdE l i)else fdE l i
noncomputable def zdB(c:za)(l:List z7):zR:=⟨c.qr,(List.range (nP c)).map fun p=>(P c p).qW,(List.range (nP c)).map fun p=>((stA c p+4:Nat):Int),fdE l l.length⟩
structure zyF(l:List z7):Prop where
 len:l.length<=140737488355328
 qx : ∀ i,i<l.length->(zA l i).qx.length*4<=B47
theorem zrX(l:List z7)(i:Nat):fdM l (i+1)=fdM l i++[(⟨(zA l i).qk,(zA l i).qu⟩,(zA l i).qx)]:=by
 unfold fdM
 rw[List.range_succ,List.map_append];rfl
theorem zHj{c:za}{l:List z7}(hf:zyF l):zyD c (zdB c l):=by
 have hB:B47=140737488351232:=rfl
 have hm : ∀ i,∀ e ∈ fdE l i,∃ k,k<l.length/\e.2=(zA l k).qx:=by
  intro i
  induction i with
  | zero=>
   intro e he
   obtain ⟨k,hk,rfl⟩:=List.mem_map.1 he
   exact⟨k,qF.1 hk,rfl⟩
  | succ i ih=>
   intro e he
   unfold fdE at he
   split at he
   . exact ih e (zzS he)
   . exact ih e he
 refine⟨rfl,⟨by simp[zdB],fun p hp=>by simp[zdB,zt,List.getD,hp]⟩,⟨by simp[zdB],fun p hp=>by simp[zdB,zt,List.getD,hp]⟩,fun e he=>?_⟩
 obtain ⟨k,hk,e2⟩:=hm _ e he
 have:=hf.qx k hk
 rw[e2];omega
section
variable {c:za} (hc:zcr c) {l:List z7} (hf:zyF l)
include hc hf
theorem zl9(hv:zbK c=true){i:Nat}(hi:i<l.length)(x1 x2:List Int) :
 zdV c l (.l4 (i:Int) x1 x2 (fdM l i))=cond (fdQ c l i) none (zdV c l (.l4 ((i+1:Nat):Int) x1 x2 (fdM l (i+1))))/\
  zbY c l (.l4 (i:Int) x1 x2 (fdM l i))=cond (fdQ c l i) (some (none,220)) (zbY c l (.l4 ((i+1:Nat):Int) x1 x2 (fdM l (i+1)))):=by
 have hl:=hf.len
 obtain ⟨r,h1,h2⟩:=zoO (q:=zn4 l i) (fdM l i)
 have hr:r.isSome=twB l i:=h2
 have m1':zes (fun x:zQ=>some (((zA l i).qk==x.qk)&&(((zA l i).qu==x.qu)&&true))) (fdM l i)=some r:=h1
 have hw:=hf.qx i hi
 have hB:B47=140737488351232:=rfl
 have c1':zgS (zA l i).qx=some (zA l i).qx:=zlz (by omega)
 have hg:decide (0<=(zA l i).qk)=true->(!decide ((nP c:Int)<=(zA l i).qk))=true->zO (zA l i).qk c.qq.length=true:=fun a b=>by
  simp only[qG,Bool.not_eq_true',decide_eq_false_iff_not]at a b
  exact zbD a (by unfold nP at b;omega)
 constructor
 . rw[zez]
   simp only[ziC,zY hi,zo hi,cnT,tnC,m1',qY,hr,Tree.run,c1']
   unfold fdQ
   cases ht:twB l i with
   | true=>rfl
   | false=>
    have p1':zn5 (fun x:zQ=>some (((zA l i).qk==x.qk)&&(((zA l i).qu==x.qu)&&true))) false ⟨(zA l i).qk,(zA l i).qu⟩ (zA l i).qx (fdM l i)=some _:=zsl (q:=zn4 l i) _ _ ht
    simp only[p1',qY,cnF,zj i (show i<4611686018427387904 by omega),Bool.false_or,← zrX]
    have:=zG6 hg (b3:=decide (0<=(zA l i).qu)) (b4:=!decide (1073741824<=(zA l i).qu)) (b5:=!decide ((P c (zA l i).qk.toNat).qE<((zA l i).qx.length:Int))) none (zdV c l (.l4 ((i+1:Nat):Int) x1 x2 (fdM l (i+1))))
    rw[Bool.not_not,Bool.not_not,Bool.not_not,← dlt,← dlt]at this
    exact this
 . rw[zfP]
   simp only[ze8,zY hi,zo hi,cnT,tnC,m1',qY,hr,Tree.run,c1']
   unfold fdQ
   cases ht:twB l i with
   | true=>rfl
   | false=>
    have p1':zn5 (fun x:zQ=>some (((zA l i).qk==x.qk)&&(((zA l i).qu==x.qu)&&true))) false ⟨(zA l i).qk,(zA l i).qu⟩ (zA l i).qx (fdM l i)=some _:=zsl (q:=zn4 l i) _ _ ht
    simp only[p1',qY,cnF,zj i (show i<4611686018427387904 by omega),Bool.false_or,← zrX]
    have:=zG6 hg (b3:=decide (0<=(zA l i).qu)) (b4:=!decide (1073741824<=(zA l i).qu)) (b5:=!decide ((P c (zA l i).qk.toNat).qE<((zA l i).qx.length:Int))) (some (none,220)) (zbY c l (.l4 ((i+1:Nat):Int) x1 x2 (fdM l (i+1))))
    rw[Bool.not_not,Bool.not_not,Bool.not_not,← dlt,← dlt]at this
    exact this
theorem zos(hv:zbK c=true)(h4:l.length<=4096) : ∃ x1 x2:List Int,x1=(zdB c l).outs/\x2=(zdB c l).at_/\znE c l=zdV c l (.l4 0 x1 x2 [])/\zeh c l=zbY c l (.l4 0 x1 x2 []):=by
 obtain ⟨g,w⟩:=zbq hc hv
 have hP:nP c<=8:=g.few.parts
 obtain ⟨r,hr,hr2⟩:=zjC hc
 rw[hv]at hr2
 have k1':zdK c=some r:=hr
 have l1':zc4 c=some (lay c,0):=zsd g w.kernel
 have d0:decide ((l.length:Int)>4096)=false:=decide_eq_false (by omega)
 have hf:decide ((nP c:Int)<(c.qq.length:Int))=false:=z8 (qD)
 have e1 : ∀ i,(List.range (i+1)).map (fun p=>(P c p).qW)=(List.range i).map (fun p=>(P c p).qW)++[(zb c.qq i).qW]:=fun i=>by rw[List.range_succ,List.map_append];rfl
 have e2 : ∀ i,(List.range (i+1)).map (fun p=>((stA c p+4:Nat):Int))=(List.range i).map (fun p=>((stA c p+4:Nat):Int))++[((stA c i+4:Nat):Int)]:=fun i=>by rw[List.range_succ,List.map_append];rfl
 have e3 : ∀ i,i<nP c->i64.wrap ((full c i).state+4)=((stA c i+4:Nat):Int):=fun i hi=>by
  obtain ⟨n1,n2,_⟩:=ztu g w hi
  exact zz _ _ (by show((pAt c i+19:Nat):Int)+4=((pAt c i+19+4:Nat):Int);omega) (by omega)
 refine⟨_,_,rfl,rfl,?_,?_⟩
 . have l0:=zK (n:=nP c) (f:=fun i (xs:List Int × List Int)=>zdV c l (.l0 (lay c,0) (i:Int) xs.1 xs.2)) (S:=fun i=>((List.range i).map fun p=>(P c p).qW,(List.range i).map fun p=>((stA c p+4:Nat):Int))) (fun i hi=>by
    have hi':i<c.qq.length:=hi
    obtain ⟨p1,p2⟩:=zuo g w hi
    rw[zez]
    simp only[ziC,zY hi',cnT,zo hi',tnC,p1,p2,zo hi,e3 i hi,qO,List.length_map,List.length_range,zaZ (show(i+1)*8<=140737488355328 by omega),zj i (show i<4611686018427387904 by omega),e1,e2,Tree.run])
   unfold znE zES
   simp only[Tree.run,qY,d0,k1',hr2,l1',Bool.not_true,cnF,qI]
   refine(show zdV c l (.l0 (lay c,0) 0 [] [])=_ from l0).trans ?_
   rw[zez]
   simp only[ziC,hf,cnF,Tree.run]
   rfl
 . have l0:=zK (n:=nP c) (f:=fun i (xs:List Int × List Int)=>zbY c l (.l0 (lay c,0) (i:Int) xs.1 xs.2)) (S:=fun i=>((List.range i).map fun p=>(P c p).qW,(List.range i).map fun p=>((stA c p+4:Nat):Int))) (fun i hi=>by
    have hi':i<c.qq.length:=hi
    obtain ⟨p1,p2⟩:=zuo g w hi
    rw[zfP]
    simp only[ze8,zY hi',cnT,zo hi',tnC,p1,p2,zo hi,e3 i hi,qO,List.length_map,List.length_range,zaZ (show(i+1)*8<=140737488355328 by omega),zj i (show i<4611686018427387904 by omega),e1,e2,Tree.run])
   unfold zeh zow
   simp only[Tree.run,qY,d0,k1',hr2,l1',Bool.not_true,cnF,qI]
   refine(show zbY c l (.l0 (lay c,0) 0 [] [])=_ from l0).trans ?_
   rw[zfP]
   simp only[ze8,hf,cnF,Tree.run]
   rfl
theorem zjG{σ R:Type}{n:Nat}{f:Nat->σ->Option R}{S:Nat->σ}{q:Nat->Bool}{r:Option R}(hs : ∀ i,i<n->f i (S i)=cond (q i) r (f (i+1) (S (i+1)))):f 0 (S 0)=cond ((List.range n).any q) r (f n (S n)):=zao (f:=fun i=>f i (S i)) (e:=f n (S n)) hs rfl
theorem zMy(hv:zbK c=true)(h4:l.length<=4096)(hb:zdL c l=true):znE c l=some (zdB c l,0):=by
 obtain ⟨x1,x2,rfl,rfl,e,_⟩:=zos hc hf hv h4
 have hn:(List.range l.length).any (fdQ c l)=false:=by unfold zdL at hb;simpa using hb
 have l4:=zjG hc hf (n:=l.length) (f:=fun i (m:List (zQ × List Int))=>zdV c l (.l4 (i:Int) (zdB c l).outs (zdB c l).at_ m)) (S:=fdM l) (fun i hi=>(zl9 hc hf hv hi _ _).1)
 rw[hn]at l4
 have l8:=zK (n:=l.length) (f:=fun i (m:List (zQ × List Int))=>zdV c l (.l8 (i:Int) (zdB c l).outs (zdB c l).at_ m)) (S:=fdE l) (fun i hi=>by
  have e61 : ∀ m,zdV c l (.l61 (i:Int) (zdB c l).outs (zdB c l).at_ m)=zdV c l (.l8 ((i+1:Nat):Int) (zdB c l).outs (zdB c l).at_ m):=fun m=>by
   rw[zez]
   simp only[ziC,zj i (show i<4611686018427387904 by omega),Tree.run]
  have d1':zqw (fun x:zQ=>some (((zA l i).qk==x.qk)&&(((zA l i).qu==x.qu)&&true))) (fdE l i)=some (zub (zn4 l i) (fdE l i)):=zHY (q:=zn4 l i) _
  have ee:fdE l (i+1)=if(zA l i).qx.length=0 then zub (zn4 l i) (fdE l i)else fdE l i:=rfl
  rw[zez]
  simp only[ziC,zY hi,zo hi,cnT,tnC,Tree.run,d1',qY,e61]
  by_cases h0:(zA l i).qx.length=0
  . rw[ee,if_pos h0,h0];rfl
  . have:(((zA l i).qx.length:Int)==0)=false:=nz h0
    rw[ee,if_neg h0,this];rfl)
 rw[e]
 refine(show zdV c l (.l4 0 (zdB c l).outs (zdB c l).at_ [])=_ from l4).trans ?_
 rw[cnF,zez]
 simp only[ziC,z8 (qD),cnF,Tree.run]
 refine(show zdV c l (.l8 0 (zdB c l).outs (zdB c l).at_ (fdM l l.length))=_ from l8).trans ?_
 rw[zez]
 simp only[ziC,z8 (qD),cnF,Tree.run]
 rfl
theorem zMx(hv:zbK c=true)(h4:l.length<=4096)(hb:zdL c l=false):znE c l=none/\zeh c l=some (none,220):=by
 obtain ⟨x1,x2,_,_,e,e'⟩:=zos hc hf hv h4
 have hn:(List.range l.length).any (fdQ c l)=true:=by unfold zdL at hb;simpa using hb
 have l4:=zjG hc hf (n:=l.length) (f:=fun i (m:List (zQ × List Int))=>zdV c l (.l4 (i:Int) x1 x2 m)) (S:=fdM l) (fun i hi=>(zl9 hc hf hv hi _ _).1)
 have l4':=zjG hc hf (n:=l.length) (f:=fun i (m:List (zQ × List Int))=>zbY c l (.l4 (i:Int) x1 x2 m)) (S:=fdM l) (fun i hi=>(zl9 hc hf hv hi _ _).2)
 rw[hn]at l4 l4'
 exact⟨e.trans l4,e'.trans l4'⟩
theorem zJR:zwp c l=some (zdL c l):=by
 have hl:=hf.len
 have h:=zao (n:=l.length) (f:=fun i=>zjp c l (.l0 (i:Int))) (q:=fdQ c l) (r:=some false) (e:=some true) (fun i hi=>by
  have hg:decide (0<=(zA l i).qk)=true->(!decide ((nP c:Int)<=(zA l i).qk))=true->zO (zA l i).qk c.qq.length=true:=fun a b=>by
   simp only[qG,Bool.not_eq_true',decide_eq_false_iff_not]at a b
   exact zbD a (by unfold nP at b;omega)
  have hin:=zao (n:=i) (f:=fun k=>zjp c l (.l4 (i:Int) (k:Int) (zA l i).qk (zA l i).qu (zA l i).qx)) (q:=fun k=>((zA l k).qk==(zA l i).qk)&&((zA l k).qu==(zA l i).qu)) (r:=some false) (e:=zjp c l (.l0 ((i+1:Nat):Int))) (fun k hk=>by
   have hk':k<l.length:=by omega
   rw[zjq]
   simp only[zop,zY hk,zo hk',cnT,tnC,zj k (show k<4611686018427387904 by omega),zfb,Tree.run]) (by
   rw[zjq]
   simp only[zop,z8 (qD),cnF,zj i (show i<4611686018427387904 by omega),Tree.run])
  have hin':zjp c l (.l4 (i:Int) 0 (zA l i).qk (zA l i).qu (zA l i).qx)=_:=hin
  have htw:((List.range i).any fun k=>((zA l k).qk==(zA l i).qk)&&((zA l k).qu==(zA l i).qu))=twB l i:=by
   unfold twB fdM
   rw[List.any_map]
   congr 1
   funext k
   show _=zn4 l i ⟨(zA l k).qk,(zA l k).qu⟩
   unfold zn4
   rw[Bool.and_true]
   congr 1
   . exact Bool.eq_iff_iff.2 (by rw[beq_iff_eq,beq_iff_eq];exact eq_comm)
   . exact Bool.eq_iff_iff.2 (by rw[beq_iff_eq,beq_iff_eq];exact eq_comm)
  rw[htw]at hin'
  rw[zjq]
  simp only[zop,zY hi,zo hi,cnT,tnC,Tree.run,hin']
  have:=zG6 hg (b3:=decide (0<=(zA l i).qu)) (b4:=!decide (1073741824<=(zA l i).qu)) (b5:=!decide ((P c (zA l i).qk.toNat).qE<((zA l i).qx.length:Int))) (some false) (cond (twB l i) (some false) (zjp c l (.l0 ((i+1:Nat):Int))))
  rw[Bool.not_not,Bool.not_not,Bool.not_not,← dlt,← dlt]at this
  refine Eq.trans this ?_
  show cond (!(fdB c l i)) _ _=cond (twB l i || !(fdB c l i)) _ _
  cases twB l i <;> cases fdB c l i <;> rfl) (by
  rw[zjq]
  simp only[zop,z8 (qD),cnF,Tree.run])
 unfold zwp zFd zdL
 refine(show zjp c l (.l0 0)=_ from h).trans ?_
 cases (List.range l.length).any (fdQ c l) <;> rfl
omit hc hf in
theorem zJQ{f:z7}(hf:f.qx.length*4<=140737488355328)(c:za)(L:zaR){fs:List z7}(hl:fs.length<=4096) : ∃ fs',ztr f c L fs=some ⟨c,L,fs'⟩/\fs'.length<=fs.length+1:=by
 have key : ∀ m i,i+m=fs.length->∀ (b:Bool) (out:List z7),out.length=i+cond b 1 0->∃ fs',zpt f c L fs (.l0 b (i:Int) out)=some ⟨c,L,fs'⟩/\fs'.length<=fs.length+1:=by
  intro m
  induction m with
  | zero=>
   intro i hi b out ho
   have e31 : ∀ o,zpt f c L fs (.l31 o)=some ⟨c,L,o⟩:=fun o=>by
    rw[zjr]
    simp only[zoq,Tree.run]
   rw[zjr]
   simp only[zoq,z8 (show fs.length<=i by omega),cnF,Tree.run,e31]
   cases b with
   | true=>exact⟨out,rfl,by simp at ho;omega⟩
   | false=>
    simp only[cnF,Nat.add_zero]at ho
    simp only[Bool.not_false,cnT,qO,zaZ (show(out.length+1)*40<=140737488355328 by omega)]
    exact⟨_,rfl,by rw[List.length_append,qO];omega⟩
  | succ m ih=>
   intro i hi b out ho
   have hil:i<fs.length:=by omega
   have hb1:out.length<=i+1:=by cases b <;> simp at ho <;> omega
   have e25 : ∀ (b:Bool) (out:List z7),out.length=i+cond b 1 0->∃ fs',zpt f c L fs (.l25 b (i:Int) out)=some ⟨c,L,fs'⟩/\fs'.length<=fs.length+1:=fun b out ho=>by
    have hb1:out.length<=i+1:=by cases b <;> simp at ho <;> omega
    rw[zjr]
    simp only[zoq,zo hil,cnT,qO,zaZ (show(out.length+1)*40<=140737488355328 by omega),zj i (show i<4611686018427387904 by omega),Tree.run]
    exact ih (i+1) (by omega) b _ (by rw[List.length_append,qO];omega)
   rw[zjr]
   simp only[zoq,zY hil,zo hil,cnT,qO,zaZ (show(out.length+1)*40<=140737488355328 by omega),Tree.run]
   cases b with
   | true=>exact e25 true out ho
   | false=>
    simp only[Bool.not_false,cnT]
    cases zBZ (⟨f.qk,f.qu,[]++f.qx⟩:z7) (zA fs (i:Int).toNat)with
    | false=>exact e25 false out ho
    | true=>exact e25 true _ (by rw[List.length_append,qO,ho];rfl)
 unfold ztr zFe
 simp only[Tree.run,List.length_nil,zaZ (show(0+f.qx.length)*4<=140737488355328 by omega),cnT]
 exact key fs.length 0 (Nat.zero_add _) false [] rfl
theorem zJO(hv:zbK c=true)(h4:l.length<=4096) : ∃ y,zwi c l=some (y,cond (zdL c l) 0 220):=by
 have hB:B47=140737488351232:=rfl
 obtain ⟨_,_,L,l1',_⟩:=zBS hc hv
 obtain ⟨r,hr,hr2⟩:=zlR hc
 have k1':zfv c=some r:=hr
 rw[hv]at hr2
 have m1':=zJR hc hf
 have key : ∀ m i,i+m=l.length->∀ fs:List z7,fs.length<=i->∃ y,zpq c l (.l0 (i:Int) c.qr c.major c.kernel c.room c.qp c.qq c.qw L.barrier L.qq L.qw L.end_ fs)=some (y,0):=by
  intro m
  induction m with
  | zero=>
   intro i hi fs hfs
   rw[zm9]
   simp only[zrH,z8 (show l.length<=i by omega),cnF,Tree.run]
   exact⟨_,rfl⟩
  | succ m ih=>
   intro i hi fs hfs
   have hil:i<l.length:=by omega
   have hw:=hf.qx i hil
   have e25 : ∀ fs:List z7,zpq c l (.l25 (i:Int) c.qr c.major c.kernel c.room c.qp c.qq c.qw L.barrier L.qq L.qw L.end_ fs)=zpq c l (.l0 ((i+1:Nat):Int) c.qr c.major c.kernel c.room c.qp c.qq c.qw L.barrier L.qq L.qw L.end_ fs):=fun fs=>by
    rw[zm9]
    simp only[zrH,zj i (show i<4611686018427387904 by omega),Tree.run]
   obtain ⟨fs',y1',hfs'⟩:=zJQ (f:=zA l i) (by omega) c L (fs:=fs) (by omega)
   rw[zm9]
   simp only[zrH,zY hil,zo hil,cnT,tnC,Tree.run,y1',qY,e25]
   cases decide (((zA l i).qx.length:Int)>0)with
   | true=>exact ih (i+1) (by omega) _ (by omega)
   | false=>exact ih (i+1) (by omega) _ (by omega)
 unfold zwi zEY
 simp only[Tree.run,qY,decide_eq_false (show ¬ (l.length:Int)>4096 by omega),k1',hr2,Bool.not_true,cnF,m1',l1']
 cases zdL c l with
 | false=>exact⟨_,rfl⟩
 | true=>exact key l.length 0 (Nat.zero_add _) [] (qD)
noncomputable def okB(c:za)(l:List z7):Bool:=!decide (l.length>4096)&&(zbK c&&zdL c l)
noncomputable def zxI(c:za)(l:List z7):Int:=cond (decide (l.length>4096)) 2 (cond (zbK c) (cond (zdL c l) 0 220) 250)
noncomputable def zct(c:za)(l:List z7):zr:=⟨c.qr,lay c,some (zqk c),some (zdB c l),some (zuU c)⟩
theorem zvl(g:zaz c):zlU c (zct c l) (zqk c) (zdB c l) (zuU c):=⟨rfl,rfl,rfl,zzU c,rfl,zHj hf,rfl,zKb g⟩
theorem zG5(h:okB c l=true):zjt c l=some (zct c l,0):=by
 unfold okB at h
 simp only[qH,Bool.not_eq_true',decide_eq_false_iff_not]at h
 obtain ⟨h4,hv,hb⟩:=h
 obtain ⟨g,w⟩:=zbq hc hv
 obtain ⟨r,hr,hr2⟩:=zjC hc
 have k1':zdK c=some r:=hr
 rw[hv]at hr2
 have l1':zc4 c=some (lay c,0):=zsd g w.kernel
 unfold zjt
 simp only[Tree.run0,Tree.run,qY,decide_eq_false (show ¬ (l.length:Int)>4096 by omega),k1',hr2,Bool.not_true,cnF,l1',zMy hc hf hv (by omega) hb,zNv hc hv,zAK hc hv,zhI,qI]
 rfl
theorem zG4(h:okB c l=false):zjt c l=none/\zdm c l=some (none,zxI c l):=by
 unfold okB at h
 unfold zxI
 by_cases h4:l.length>4096
 . constructor
   . unfold zjt
     simp only[Tree.run0,Tree.run,decide_eq_true (show(l.length:Int)>4096 by omega),cnT]
   . unfold zdm
     simp only[Tree.run0,Tree.run,decide_eq_true (show(l.length:Int)>4096 by omega),decide_eq_true h4,cnT]
 . rw [decide_eq_false h4]at h ⊢
   have d0:decide ((l.length:Int)>4096)=false:=decide_eq_false (by omega)
   obtain ⟨r,hr,hr2⟩:=zjC hc
   have k1':zdK c=some r:=hr
   cases hv:zbK c with
   | false=>
    rw[hv]at hr2
    constructor
    . unfold zjt
      simp only[Tree.run0,Tree.run,qY,d0,k1',hr2,Bool.not_false,cnF,cnT]
    . unfold zdm
      simp only[Tree.run0,Tree.run,qY,d0,k1',hr2,Bool.not_false,cnF,cnT]
   | true=>
    rw[hv]at h hr2
    have hb:zdL c l=false:=by simpa using h
    obtain ⟨d1',d2'⟩:=zMx hc hf hv (by omega) hb
    rw[hb]
    constructor
    . unfold zjt
      simp only[Tree.run0,Tree.run,qY,d0,k1',hr2,Bool.not_true,cnF,d1',d2',zgu,show((220:Int)==0)=false from rfl,Bool.not_false,cnT]
    . unfold zdm
      simp only[Tree.run0,Tree.run,qY,d0,k1',hr2,Bool.not_true,cnF,d1',d2',zgu,show((220:Int)==0)=false from rfl,Bool.not_false,cnT]
theorem zvS : ∃ y,znA c l=some (y,zxI c l)/\y.isNone=!(okB c l):=by
 unfold okB zxI znA
 by_cases h4:l.length>4096
 . simp only[Tree.run0,Tree.run,decide_eq_true (show(l.length:Int)>4096 by omega),decide_eq_true h4,cnT]
   exact⟨_,rfl,rfl⟩
 . rw[decide_eq_false h4]
   have d0:decide ((l.length:Int)>4096)=false:=decide_eq_false (by omega)
   obtain ⟨r,hr,hr2⟩:=zlR hc
   have k1':zfv c=some r:=hr
   cases hv:zbK c with
   | false=>
    rw[hv]at hr2
    simp only[Tree.run0,Tree.run,qY,d0,k1',hr2,Bool.not_false,cnF,cnT]
    exact⟨_,rfl,rfl⟩
   | true=>
    rw[hv]at hr2
    obtain ⟨⟨y1,n1'⟩,⟨y2,n2'⟩,L,l1',_⟩:=zBS hc hv
    obtain ⟨y3,n3'⟩:=zJO hc hf hv (by omega)
    simp only[Tree.run0,Tree.run,qY,d0,k1',hr2,Bool.not_true,cnF,l1',n1',n2',n3']
    cases zdL c l with
    | false=>exact⟨_,rfl,rfl⟩
    | true=>exact⟨_,rfl,rfl⟩
end
theorem zuC{x:zf}(hx:zcQ x){j a:Nat}(h:0<=zaW x (16*j))(ha:a / 16=j):0<=zaW x a:=by
 unfold zaW at h ⊢
 rw[show 16*j / 16=j by omega]at h
 rw[ha]
 cases hq:(List.range x.qe.length).find? (za7 x j)with
 | none=>rw[hq]at h;dsimp only at h;omega
 | some i=>
  have hi:=qF.1 (List.mem_of_find?_eq_some hq)
  have hqi:=List.find?_some hq
  simp only[za7,qH,qG]at hqi
  obtain ⟨b1,_⟩:=hx.frame i hi
  dsimp only
  omega
theorem zHV{x:zf}(hx:zcQ x)(prog:List Int) : ∃ b,zth x prog=some b/\(b=true ↔ (prog.length<=1024/\∀ a,a<prog.length->0<=zaW x a)):=by
 unfold zth zE0
 by_cases h:(prog.length:Int)>1024
 . simp only[Tree.run,decide_eq_true h,cnT]
   exact⟨_,rfl,⟨fun e=>(by cases e),fun e=>absurd e.1 (by omega)⟩⟩
 . simp only[Tree.run,decide_eq_false h,cnF]
   have key : ∀ m j,prog.length<=16*j+16*m->∃ b,zv6 x prog (.l0 ((16*j:Nat):Int))=some b/\(b=true ↔ ∀ a,16*j<=a->a<prog.length->0<=zaW x a):=by
    intro m
    induction m with
    | zero=>
     intro j hj
     rw[znb]
     simp only[zrI,z8 (show prog.length<=16*j by omega),cnF,Tree.run]
     exact⟨_,rfl,fun _ a h1 h2=>by omega,fun _=>rfl⟩
    | succ m ih=>
     intro j hj
     by_cases hl:16*j<prog.length
     . have k1':=zqG hx (a:=16*j) (by omega)
       have w1:i64.wrap (((16*j:Nat):Int)+16)=((16*(j+1):Nat):Int):=zz _ _ (by omega) (by omega)
       rw[znb]
       simp only[zrI,zY hl,cnT,k1',qY,w1,Tree.run]
       by_cases hp:zaW x (16*j)<0
       . rw[decide_eq_true hp,cnT]
         exact⟨_,rfl,⟨fun e=>(by cases e),fun e=>absurd (e (16*j) (qD) hl) (by omega)⟩⟩
       . rw[decide_eq_false hp,cnF]
         obtain ⟨b,e,hb⟩:=ih (j+1) (by omega)
         refine⟨b,e,fun h1 a h2 h3=>?_,fun h1=>hb.2 fun a h2 h3=>h1 a (by omega) h3⟩
         by_cases h4:16*(j+1)<=a
         . exact hb.1 h1 a h4 h3
         . exact zuC hx (j:=j) (by omega) (by omega)
     . rw[znb]
       simp only[zrI,z8 (show prog.length<=16*j by omega),cnF,Tree.run]
       exact⟨_,rfl,fun _ a h1 h2=>by omega,fun _=>rfl⟩
   obtain ⟨b,e,hb⟩:=key 64 0 (by omega)
   exact⟨b,e,fun h1=>⟨by omega,fun a ha=>hb.1 h1 a (by omega) ha⟩,fun h1=>hb.2 fun a _ ha=>h1.2 a ha⟩
section
variable {c:za} (g:zaz c) (w:zei c)
include g w
theorem zAR{p:Nat}(hp:p<nP c){prog:List Int}(hl:prog.length<=1024)(hpl : ∀ a,a<prog.length->0<=zaW (P c p) a)(h:Nat->Int):zpx (P c p) prog (mk (nW c) h)=some (mk (nW c) (zmu (P c p) prog h prog.length)):=by
 have lp:=zK (n:=prog.length) (f:=fun i (m:List Int)=>zsW (P c p) prog (mk (nW c) h) (.l0 (i:Int) m)) (S:=fun i=>mk (nW c) (zmu (P c p) prog h i)) (fun i hi=>by
  have k1':=zqG (zcL g hp) (a:=i) (by omega)
  obtain ⟨z,hz⟩ : ∃ z:Nat,zaW (P c p) i=(z:Int):=⟨(zaW (P c p) i).toNat,by have:=hpl i hi;omega⟩
  obtain ⟨_,_,_,_,_,hzn⟩:=zka g w hp hz (by omega)
  have hz2:z<nW c:=by omega
  have e:mk (nW c) (fun k=>if k=z then zt prog i else zmu (P c p) prog h i k)=mk (nW c) (zmu (P c p) prog h (i+1)):=zbO fun k _=>by
   show _=if(k:Int)=zaW (P c p) i then zt prog i else zmu (P c p) prog h i k
   rw[hz]
   by_cases hk:k=z
   . rw[if_pos hk,if_pos (by omega)]
   . rw[if_neg hk,if_neg (by omega)]
  rw[hz]at k1'
  rw[zsX]
  simp only[zvc,zY hi,zo hi,cnT,k1',qY,zP,zo hz2,tnC,zdM hz2,e,zj i (show i<4611686018427387904 by omega),Tree.run])
 unfold zpx zE2
 refine(show zsW (P c p) prog (mk (nW c) h) (.l0 0 (mk (nW c) h))=_ from lp).trans ?_
 rw[zsX]
 simp only[zvc,z8 (qD),cnF,Tree.run]
end
theorem ztZ {c:za} (hc:zcr c) (hv:zbK c=true) {l:List (List Int)} (hl : ∀ i j,0<=zt (zW l i) j/\zt (zW l i) j<4294967296) : ∃ r,zf3 c l=some r/\(r.2.1=0->r.1=mk (nW c) (zcS c l (nP c)))/\(l.length<=nP c->(∀ j,j<l.length->(zW l j).length<=1024/\∀ a,a<(zW l j).length->0<=zaW (P c j) a)->r.2.1=0):=by
 obtain ⟨g,w⟩:=zbq hc hv
 have hP:nP c<=8:=g.few.parts
 obtain ⟨r,hr,hr2⟩:=zlR hc
 have k1':zfv c=some r:=hr
 rw[hv]at hr2
 obtain ⟨L,o1',_,hLp⟩:=zDX g w.kernel
 obtain ⟨w1,w2⟩:=zsn g w.kernel
 have hpn:c.qq.length=nP c:=rfl
 unfold zf3 zEO
 simp only[Tree.run,k1',qY,hr2,Bool.not_true,cnF]
 by_cases hlen:(l.length:Int)>(c.qq.length:Int)
 . rw[decide_eq_true hlen,cnT]
   exact⟨_,rfl,fun e=>(by cases e),fun e _=>absurd e (by omega)⟩
 . rw [decide_eq_false hlen,cnF]
   have ew:i64.wrap (c.qr*16)=(nW c:Int):=zz _ _ (by omega) (by omega)
   -- the qo lie in their qq, or do not
   have k0 : ∀ m i,i+m=l.length->(∀ j,j<i->(zW l j).length<=1024/\∀ a,a<(zW l j).length->0<=zaW (P c j) a)->
    (∃ q,zjd c l (.l0 (i:Int))=some ([],241,q)/\¬ ∀ j,j<l.length->(zW l j).length<=1024/\∀ a,a<(zW l j).length->0<=zaW (P c j) a) ∨ ((∀ j,j<l.length->(zW l j).length<=1024/\∀ a,a<(zW l j).length->0<=zaW (P c j) a)/\zjd c l (.l0 (i:Int))=zjd c l (.l4 (L,0) 0 (mk (nW c) fun _=>0))):=by
    intro m
    induction m with
    | zero=>
     intro i hi hj
     refine .inr ⟨fun j hjl=>hj j (by omega),?_⟩
     rw[zgJ]
     simp only[zl2,z8 (show l.length<=i by omega),cnF,o1',qY,ew,Tree.run,tnC,zqx,show(decide True&&decide (0<=(nW c:Int))&&leB (nW c*4) 140737488355328)=true from by rw[zaZ (by omega),decide_eq_true (show(0:Int)<=(nW c:Int)by omega)];rfl,cnT]
    | succ m ih=>
     intro i hi hj
     have hil:i<l.length:=by omega
     have hip:i<c.qq.length:=by omega
     obtain ⟨b,b1',hb⟩:=zHV (zcL g hip) (zW l i)
     have b2':zth (zb c.qq i) (zW l i)=some b:=b1'
     rw[zgJ]
     simp only[zl2,zY hil,zo hil,zo hip,cnT,tnC,b2',qY,zj i (show i<4611686018427387904 by omega),Tree.run]
     cases b with
     | false=>exact .inl ⟨_,rfl,fun h=>by have:=hb.2 (h i hil);cases this⟩
     | true=>
      refine ih (i+1) (by omega) fun j hj2=>?_
      by_cases e:j=i
      . subst e;exact hb.1 rfl
      . exact hj j (by omega)
   rcases k0 l.length 0 (Nat.zero_add _) (fun j hj=>absurd hj (Nat.not_lt_zero _))with ⟨q,e,hn⟩ | ⟨hlie,e⟩
   . exact⟨_,e,fun e=>(by cases e),fun _ e2=>absurd e2 hn⟩
   . have l4:=zK (n:=nP c) (f:=fun p (m:List Int)=>zjd c l (.l4 (L,0) (p:Int) m)) (S:=fun p=>mk (nW c) (zcS c l p)) (fun p hp=>by
      have hp':p<c.qq.length:=hp
      have hlenp:p<L.qq.length:=by rw[hLp,zi3];exact hp
      have hat:zn L.qq p=full c p:=by rw[hLp,zqE hp,if_pos hp]
      have hb:=zl5 g w hl p (by omega)
      have t1':zpw (zb c.qq p) (full c p) (mk (nW c) (zcS c l p))=some (mk (nW c) (TW (P c p) (tF c p) (zcS c l p))):=zEl (zcL g hp) (zqF g w hp) (zcS c l p) (fun a h1 h2=>by
       have hT:InT c p a:=⟨h1,h2⟩
       obtain ⟨b1,b2⟩:=zpP g w hp hT
       have hlt:=zpQ hT
       refine hb.zero a b1 b2 (fun q hq hTq=>?_) fun q hq e=>?_
       . have:=zuX g w hp (by omega) hT hTq;omega
       . have e1:pAt c (nP c)=16*kF0 c+2+24*nP c:=rfl
         have e2:pAt c q=16*kF0 c+2+24*q:=rfl
         omega)
      have hpt:=zqD hp
      have hcE:=zqg g w
      have hin:pAt c p+18<nW c:=by omega
      have hsv:i64.wrap ((full c p).save+16)=((pAt c p+18:Nat):Int):=zz _ _ (by show((pAt c p+2:Nat):Int)+16=_;omega) (by omega)
      have e31 : ∀ m:List Int,zjd c l (.l31 (L,0) (p:Int) m)=zjd c l (.l4 (L,0) ((p+1:Nat):Int) m):=fun m=>by
       rw[zgJ]
       simp only[zl2,zj p (show p<4611686018427387904 by omega),Tree.run]
      have es:zcS c l (p+1)=zrJ c l (zcS c l p) p:=rfl
      rw[zgJ]
      simp only[zl2,tnC,zY hp',zo hp',cnT,zo hlenp,hat,t1',qY,hsv,zP,zo hin,zdM hin,e31,Tree.run]
      unfold zrJ at es
      by_cases hpl:p<l.length
      . rw[if_pos hpl]at es
        have y1':zpx (zb c.qq p) (zW l p) (mk (nW c) fun i=>if i=pAt c p+18 then u32.wrap (zb c.qq p).entry else TW (P c p) (tF c p) (zcS c l p) i)=some _:=zAR g w hp (hlie p hpl).1 (hlie p hpl).2 _
        rw[zY hpl,cnT,zo hpl,cnT,y1',qY,es]
        rfl
      . rw[if_neg hpl]at es
        rw[z8 (show l.length<=p by omega),cnF,es]
        rfl)
     refine⟨(mk (nW c) (zcS c l (nP c)),0,-1),(e.trans l4).trans ?_,fun _=>rfl,fun _ _=>rfl⟩
     rw[zgJ]
     simp only[zl2,hpn,z8 (qD),cnF,Tree.run]
theorem zsr{c:za}(g:zaz c)(w:zei c)(f:Nat->Int):zli (mk (nW c) f)=some (⟨mk (nW c) f⟩,0)/\∃ y,znB (mk (nW c) f)=some (y,0):=by
 obtain ⟨w1,w2⟩:=zsn g w.kernel
 have hf:=g.qr
 have d0:decide ((nW c:Int)>16384)=false:=decide_eq_false (by omega)
 have d1:((nW c:Int)==0)=false:=nz (by omega)
 have d2:bop .rem .i64 (nW c:Int) 16=0:=by
  rw[zhi,show nW c % 16=0 by unfold nW;omega];rfl
 constructor
 . unfold zli
   simp only[Tree.run0,Tree.run,zP,d0,d1,d2,cnF,qI,Bool.not_true,zlz (l:=mk (nW c) f) (by rw[zP];omega),qY]
 . unfold znB
   simp only[Tree.run0,Tree.run,zP,d0,d1,d2,cnF,cnT,qI,Bool.not_true,List.length_nil,zaZ (show(0+nW c)*4<=140737488355328 by omega)]
   exact⟨_,rfl⟩
theorem zzt{xs:List z7}{i:Nat}(h:i<xs.length):zA xs i=xs[i]:=by simp[zA,List.getD,h]
theorem zcR{xs:List z7}{i j:Nat}{y:z7}(h:i<xs.length):zA (List.set xs i y) j=if i=j then y else zA xs j:=by
 by_cases e:i=j
 . subst e;rw[if_pos rfl];simp[zA,List.getD,h]
 . rw[if_neg e];simp[zA,List.getD,List.getElem?_set,e]
theorem zDh{xs:List Int}{i j:Nat}{y:Int}(e:i ≠ j):zt (List.set xs i y) j=zt xs j:=by simp[zt,List.getD,List.getElem?_set,e]
theorem zvt{l:List z7}(hf:zyF l)(h40:l.length*40<=B47):ztd l=some l:=by
 have hB:B47=140737488351232:=rfl
 have l0:=zK (n:=l.length) (f:=fun i (xs:List z7)=>zsO l (.l0 (i:Int) xs)) (S:=fun i=>l.take i) (fun i hi=>by
  have hw:=hf.qx i hi
  rw[zsP]
  simp only[zu8,zY hi,cnT,zo hi,tnC,List.nil_append,List.length_nil,qO,List.length_take,zaZ (show(0+(zA l i).qx.length)*4<=140737488355328 by omega),zaZ (show(min i l.length+1)*40<=140737488355328 by omega),zht l hi (zzt hi),zj i (show i<4611686018427387904 by omega),Tree.run])
 unfold ztd zEL
 refine(show zsO l (.l0 0 [])=_ from l0).trans ?_
 rw[zsP]
 simp only[zu8,z8 (qD),cnF,List.take_length,Tree.run]
theorem zFg{l:List z7}(hf:zyF l) : ∃ y,zlh l l=some (true,y):=by
 have hB:B47=140737488351232:=rfl
 have hll:=hf.len
 obtain ⟨xs,⟨hx,_⟩,l0⟩:=zdD (n:=l.length) (f:=fun i (xs:List z7)=>zhJ l l (.l0 true (i:Int) xs)) (fun i xs=>xs.length=l.length/\∀ j,i<=j->zA xs j=zA l j) (fun i hi xs ⟨hl,hx⟩=>by
  have hw:=hf.qx i hi
  have hil:i<xs.length:=by omega
  have inner:=zdD (n:=(zA l i).qx.length) (f:=fun k (ys:List z7)=>zhJ l l (.l4 true (i:Int) (k:Int) ys)) (fun k ys=>ys.length=l.length/\(∀ j,i+1<=j->zA ys j=zA l j)/\(zA ys i).qx.length=(zA l i).qx.length/\∀ m,k<=m->zt (zA ys i).qx m=zt (zA l i).qx m) (fun k hk ys ⟨y1,y2,y3,y4⟩=>by
   have hy:i<ys.length:=by omega
   have hk3:k<(zA ys i).qx.length:=by omega
   have s1:zA (List.set ys i (zA ys i)) i=zA ys i:=by rw[zcR hy,if_pos rfl]
   refine⟨List.set (List.set ys i (zA ys i)) i ⟨(zA ys i).qk,(zA ys i).qu,List.set (zA ys i).qx k 12345⟩,⟨by simp[y1],fun j hj=>?_,?_,fun m hm=>?_⟩,?_⟩
   . rw[zcR (by simpa using hy),if_neg (by omega),zcR hy,if_neg (by omega)];exact y2 j hj
   . rw[zcR (by simpa using hy),if_pos rfl]
     show(List.set _ _ _).length=_
     rw[List.length_set];exact y3
   . rw[zcR (by simpa using hy),if_pos rfl]
     show zt (List.set _ _ _) _=_
     rw[zDh (by omega)];exact y4 m (by omega)
   . rw[zjc]
     simp only[zoi,cnT,zo hi,tnC,zY hk,zo hy,zo hk3,zo hk,s1,y4 k (qD),qI,zj k (show k<4611686018427387904 by omega),Tree.run])
  obtain ⟨ys,⟨y1,y2,y3,y4⟩,e1⟩:=inner (List.set xs i (zA xs i)) ⟨by simp[hl],fun j hj=>by rw[zcR hil,if_neg (by omega)];exact hx j (by omega),by rw[zcR hil,if_pos rfl,hx i (qD)],fun m _=>by rw[zcR hil,if_pos rfl,hx i (qD)]⟩
  have hy:i<ys.length:=by omega
  refine⟨List.set ys i ⟨(zA ys i).qk,i64.wrap ((zA ys i).qu+1),(zA ys i).qx⟩,⟨?_,fun j hj=>?_⟩,?_⟩
  rotate_left 2
  . have st:zhJ l l (.l0 true (i:Int) xs)=zhJ l l (.l4 true (i:Int) 0 (List.set xs i (zA xs i))):=by
     rw[zjc]
     simp only[zoi,cnT,hl,zY hi,zo hi,tnC,hx i (qD),qI,Tree.run]
    have en:zhJ l l (.l4 true (i:Int) ((zA l i).qx.length:Int) ys)=zhJ l l (.l0 true ((i+1:Nat):Int) (List.set ys i ⟨(zA ys i).qk,i64.wrap ((zA ys i).qu+1),(zA ys i).qx⟩)):=by
     rw[zjc]
     simp only[zoi,cnT,zo hi,tnC,z8 (qD),cnF,zo hy,zj i (show i<4611686018427387904 by omega),Tree.run]
    exact st.trans (e1.trans en)
  . simp[y1]
  . rw[zcR hy,if_neg (by omega)];exact y2 j hj) l ⟨rfl,fun _ _=>rfl⟩
 unfold zlh zEN
 simp only[Tree.run,qI]
 refine⟨xs,(show zhJ l l (.l0 true 0 l)=_ from l0).trans ?_⟩
 rw[zjc]
 simp only[zoi,cnT,hx,z8 (qD),cnF,Tree.run]
structure ztI(x:zp):Prop where
 qj:zcr x.qj
 qi:zyF x.qi
 f40:x.qi.length*40<=B47
 progs:x.qo.length<=140737488355328
 qx : ∀ i j,0<=zt (zW x.qo i) j/\zt (zW x.qo i) j<4294967296
theorem zBu{x:zp}(hx:ztI x)(h:okB x.qj x.qi=true) : ∃ W:zS,∃ l:List (List Int),zrg x=some (W,true)/\W.c=x.qj/\W.s=some (zct x.qj x.qi)/\(∀ i j,0<=zt (zW l i) j/\zt (zW l i) j<4294967296)/\W.m=some ⟨mk (nW x.qj) (zcS x.qj l (nP x.qj))⟩/\(∀ r,zf3 x.qj x.qo=some r->r.2.1=0->l=x.qo):=by
 have hc:=hx.qj
 have hv:zbK x.qj=true:=by
  unfold okB at h
  simp only[qH]at h
  exact h.2.1
 obtain ⟨g,w⟩:=zbq hc hv
 have h1':=zr5 hc
 have h2':=zvt hx.qi hx.f40
 have n1':=zG5 hc hx.qi h
 obtain ⟨y,y1',hy⟩:=zvS hc hx.qi
 rw[h]at hy
 have he:zxI x.qj x.qi=0:=by
  unfold okB at h
  simp only[qH,Bool.not_eq_true',decide_eq_false_iff_not]at h
  unfold zxI
  rw[decide_eq_false h.1,h.2.1,h.2.2];rfl
 rw[he]at y1'
 obtain ⟨a,b,d,r1'⟩:=zmN hc x.qj.qr x.qj.major x.qj.kernel x.qj.room
 obtain ⟨z,z1'⟩:=zFg hx.qi
 obtain ⟨q,b1',hb,_⟩:=ztZ hc hv hx.qx
 obtain ⟨q0,b0',hb0,hb00⟩:=ztZ hc hv (l:=[]) (fun i j=>⟨Int.le_refl _,by show(0:Int)<_;omega⟩)
 have e33 : ∀ (q:List Int × Int × Int) (l:List (List Int)),q.1=mk (nW x.qj) (zcS x.qj l (nP x.qj))->∃ W:zS,zEc x (.l33 q (y,0) (some (zct x.qj x.qi)))=some (W,true)/\W.c=x.qj/\W.s=some (zct x.qj x.qi)/\W.m=some ⟨mk (nW x.qj) (zcS x.qj l (nP x.qj))⟩:=fun q l hq=>by
  obtain ⟨m1',u,m2'⟩:=zsr g w (zcS x.qj l (nP x.qj))
  rw[zEd]
  simp only[zG3,hq,m1',m2',qY,qI,cnT,Tree.run]
  exact⟨_,rfl,rfl,rfl,rfl⟩
 have hcd:(⟨(zct x.qj x.qi).qr,(zct x.qj x.qi).lay,some ((zct x.qj x.qi).qg.getD default),some ((zct x.qj x.qi).qf.getD default),some ((zct x.qj x.qi).qh.getD default)⟩:zr)=zct x.qj x.qi:=rfl
 unfold zrg zHy
 simp only[Tree.run,h1',h2',n1',y1',r1',z1',b1',b0',qY,zhI,hy,qI,Bool.not_true,cnF,hcd]
 by_cases h0:q.2.1=0
 . have hbq:(q.2.1==0)=true:=by rw[h0];rfl
   rw[hbq]
   obtain ⟨W,e1,e2,e3,e4⟩:=e33 q _ (hb h0)
   exact⟨W,x.qo,e1,e2,e3,hx.qx,e4,fun _ _ _=>rfl⟩
 . have hbq:(q.2.1==0)=false:=by simpa using h0
   rw[hbq]
   obtain ⟨W,e1,e2,e3,e4⟩:=e33 q0 [] (hb0 (hb00 (Nat.zero_le _) fun j hj=>absurd hj (Nat.not_lt_zero _)))
   exact⟨W,[],e1,e2,e3,fun i j=>⟨Int.le_refl _,by show(0:Int)<_;omega⟩,e4,fun r hr hr0=>by cases hr;exact absurd hr0 h0⟩
theorem zJF{x:zp}(hx:ztI x)(h:okB x.qj x.qi=false):zrg x=none/\∃ W:zS,zeg x=some (W,true):=by
 have hc:=hx.qj
 have h1':=zr5 hc
 have h2':=zvt hx.qi hx.f40
 obtain ⟨n1',n2'⟩:=zG4 hc hx.qi h
 obtain ⟨y,y1',hy⟩:=zvS hc hx.qi
 rw[h]at hy
 obtain ⟨a,b,d,r1'⟩:=zmN hc x.qj.qr x.qj.major x.qj.kernel x.qj.room
 obtain ⟨z,z1'⟩:=zFg hx.qi
 constructor
 . unfold zrg zHy
   simp only[Tree.run,h1',h2',n1',n2',y1',r1',z1',qY,zgu,hy,qI,Bool.not_true,Bool.not_false,cnF,cnT]
 . unfold zeg zov
   simp only[Tree.run,h1',h2',n1',n2',y1',r1',z1',qY,zgu,hy,qI,Bool.not_true,Bool.not_false,cnF,cnT]
   exact⟨_,rfl⟩
theorem zzz{x:zp}(hx:ztI x) : ∃ b,zB9 x=some b:=by
 obtain ⟨b,v1'⟩:=zJ9 hx.qj
 have hp:=hx.progs
 have hf:=hx.qi.len
 have l4 : ∀ r i,i+r=x.qi.length->∀ n:Int,∃ b,zB6 x (.l4 n (i:Int))=some b:=by
  intro r
  induction r with
  | zero=>
   intro i hi n
   rw[zlM]
   simp only[zxx,z8 (show x.qi.length<=i by omega),cnF,Tree.run]
   exact⟨_,rfl⟩
  | succ r ih=>
   intro i hi n
   have hi':i<x.qi.length:=by omega
   rw[zlM]
   simp only[zxx,zY hi',cnT,zo hi',zj i (show i<4611686018427387904 by omega),Tree.run]
   cases decide (n<=2147483647)with
   | false=>exact⟨_,rfl⟩
   | true=>exact ih (i+1) (by omega) _
 have l0 : ∀ r i,i+r=x.qo.length->∀ n:Int,∃ b,zB6 x (.l0 n (i:Int))=some b:=by
  intro r
  induction r with
  | zero=>
   intro i hi n
   rw[zlM]
   simp only[zxx,z8 (show x.qo.length<=i by omega),cnF,Tree.run]
   exact l4 x.qi.length 0 (Nat.zero_add _) n
  | succ r ih=>
   intro i hi n
   have hi':i<x.qo.length:=by omega
   rw[zlM]
   simp only[zxx,zY hi',cnT,zo hi',zj i (show i<4611686018427387904 by omega),Tree.run]
   cases decide (n<=2147483647)with
   | false=>exact l4 x.qi.length 0 (Nat.zero_add _) n
   | true=>exact ih (i+1) (by omega) _
 unfold zB9 ent7
 simp only[Tree.run,v1',qY]
 cases b with
 | true=>exact⟨_,rfl⟩
 | false=>exact l0 x.qo.length 0 (Nat.zero_add _) _
theorem zNu(a:Int):uop .neg .i64 a=i64.wrap (0-a):=by kernel_rfl
theorem zuB{a:Int}(ha:I64 a){n:Nat}(hn:0<n) : ∃ r:Nat,r<n/\zf1 a (n:Int)=some (r:Int):=by
 obtain ⟨a1,a2⟩:=ha
 have key : ∀ z:Int,0<=z->∃ r:Nat,r<n/\zv3 a (n:Int) (.l7 z)=some (r:Int):=fun z hz=>by
  have e:dv .rem .i64 z (n:Int)=z % (n:Int):=Int.tmod_eq_emod_of_nonneg hz
  have h1:=Int.emod_nonneg z (show(n:Int) ≠ 0 by omega)
  have h2:=Int.emod_lt_of_pos z (show(0:Int)<n by omega)
  refine⟨(z % (n:Int)).toNat,by omega,?_⟩
  rw[zB2]
  simp only[zzB,decide_eq_false (show ¬ (n:Int)=0 by omega),cnF,e,Tree.run]
  exact congrArg some (Int.toNat_of_nonneg h1).symm
 unfold zf1 zEE
 by_cases h:a<0
 . simp only[Tree.run,decide_eq_true h,cnT]
   rw[zNu,zam (a+1) (by omega) (by omega),zam (0-(a+1)) (by omega) (by omega)]
   exact key _ (by omega)
 . simp only[Tree.run,decide_eq_false h,cnF]
   exact key _ (by omega)
def zcu(o:zq):zB:=⟨⟨1000,o.r1,o.r2,o.r3,1028,1035,1042,1049,1056,1063,1070,1077,1084,1091,1098,1105⟩,u32.wrap (i64.wrap (9+o.a))⟩
def cV(i j:Nat):Int:=if j<i then 1000+7*(j:Int)else 0
def cS(i:Nat):L13:=.l0 (i:Int) (cV i 0) (cV i 1) (cV i 2) (cV i 3) (cV i 4) (cV i 5) (cV i 6) (cV i 7) (cV i 8) (cV i 9) (cV i 10) (cV i 11) (cV i 12) (cV i 13) (cV i 14) (cV i 15)
theorem zMu(o:zq) : ∀ i,i<16->(zzD o (cS i)).run (zgF o)=zgF o (cS (i+1))
 | 0,_=>by kernel_rfl
 | 1,_=>by kernel_rfl
 | 2,_=>by kernel_rfl
 | 3,_=>by kernel_rfl
 | 4,_=>by kernel_rfl
 | 5,_=>by kernel_rfl
 | 6,_=>by kernel_rfl
 | 7,_=>by kernel_rfl
 | 8,_=>by kernel_rfl
 | 9,_=>by kernel_rfl
 | 10,_=>by kernel_rfl
 | 11,_=>by kernel_rfl
 | 12,_=>by kernel_rfl
 | 13,_=>by kernel_rfl
 | 14,_=>by kernel_rfl
 | 15,_=>by kernel_rfl
 | i+16,h=>absurd h (by omega)
theorem zd8(o:zq):zf2 o=some (zcu o):=by
 have h : ∀ i,i<16->zgF o (cS i)=zgF o (cS (i+1)):=fun i hi=>by
  rw[zsJ]
  exact zMu o i hi
 have h16 : ∀ i,i<=16->zgF o (cS 0)=zgF o (cS i):=by
  intro i
  induction i with
  | zero=>exact fun _=>rfl
  | succ i ih=>exact fun hi=>(ih (by omega)).trans (h i (by omega))
 have e:zgF o (cS 16)=some (zcu o):=by
  rw[zsJ]
  kernel_rfl
 unfold zf2 zEG
 exact Eq.trans (show _=zgF o (cS 0)by kernel_rfl) ((h16 16 (qD)).trans e)
structure zGl(o:zq):Prop where
 p:I64 o.p
 call:I64 o.call
 qu:I64 o.qu
 r1:0<=o.r1/\o.r1<4294967296
 r2:0<=o.r2/\o.r2<4294967296
 r3:0<=o.r3/\o.r3<4294967296
theorem zEt{N:Nat}(hN:N<=100000)(f:Nat->Int):zjs (some ⟨mk N f⟩)=some (mk N f):=by
 unfold zjs
 simp only[Tree.run0,Tree.run,qS,cnF,qA,cnT,qP,zlz (l:=mk N f) (by rw[zP];omega),qY]
section
variable {c:za} (g:zaz c) (w:zei c)
include g w
end
theorem zzx{l:List Int}(h:(l.all fun z=>decide (0<=z)&&decide (z<4294967296))=true)(j:Nat):0<=zt l j/\zt l j<4294967296:=by
 by_cases hj:j<l.length
 . have e:zt l j=l[j]:=by simp[zt,List.getD,hj]
   have:=List.all_eq_true.1 h l[j] (List.getElem_mem _)
   rw[e]
   simpa using this
 . have e:zt l j=0:=by simp[zt,List.getD,hj]
   rw[e];omega
noncomputable def kn:zp:=zB0
noncomputable abbrev knc:za:=kn.qj
theorem zlE:zcr knc:=by
 refine⟨by show I64 16;unfold I64;omega,by show I64 3;unfold I64;omega,by show I64 13;unfold I64;omega,by show 1*24<=B47;unfold B47;omega,fun i hi=>?_,by show 3*104<=B47;unfold B47;omega,fun i hi=>?_,fun i hi=>?_,fun i hi=>?_,by show 2*24<=B47;unfold B47;omega,fun i k hi hk=>?_⟩
 . have hi':i<1:=hi
   obtain rfl:i=0:=by omega
   show 3*24<=B47
   unfold B47;omega
 . have hi':i<3:=hi
   rcases (show i=0 ∨ i=1 ∨ i=2 by omega)with rfl | rfl | rfl <;> (show 1*32<=B47;unfold B47;omega)
 . have hi':i<3:=hi
   rcases (show i=0 ∨ i=1 ∨ i=2 by omega)with rfl | rfl | rfl
   . show 2*16<=B47
     unfold B47;omega
   . show 2*16<=B47
     unfold B47;omega
   . show 1*16<=B47
     unfold B47;omega
 . have hi':i<3:=hi
   rcases (show i=0 ∨ i=1 ∨ i=2 by omega)with rfl | rfl | rfl <;> exact of_decide_eq_true (by kernel_rfl)
 . have hi':i<3:=hi
   rcases (show i=0 ∨ i=1 ∨ i=2 by omega)with rfl | rfl | rfl <;> (
    have hk':k<1:=hk
    obtain rfl:k=0:=by omega
    first
     | exact⟨by show I64 0;unfold I64;omega,by show I64 1;unfold I64;omega⟩
     | exact⟨by show I64 1;unfold I64;omega,by show I64 1;unfold I64;omega⟩
     | exact⟨by show I64 2;unfold I64;omega,by show I64 1;unfold I64;omega⟩)
theorem kn_fit:ztI kn:=by
 refine⟨zlE,⟨of_decide_eq_true (by kernel_rfl),fun i hi=>?_⟩,of_decide_eq_true (by kernel_rfl),of_decide_eq_true (by kernel_rfl),fun i j=>?_⟩
 . have hi':i<1:=hi
   obtain rfl:i=0:=by omega
   exact of_decide_eq_true (by kernel_rfl)
 . match i with
   | 0=>exact zzx (l:=[0,0,0,0,7,8]) (by kernel_rfl) j
   | i+1=>exact zzx (l:=[]) rfl j
theorem zNm:okB knc kn.qi=true:=by kernel_rfl
theorem zsa:zbK knc=true:=by kernel_rfl
theorem zDM:((List.range 6).all fun a=>decide (0<=zaW (P knc 0) a))=true:=by kernel_rfl
noncomputable def kw0:Nat->Int:=zcS knc kn.qo (nP knc)
noncomputable abbrev kE:List (zQ × List Int):=(zdB knc kn.qi).qi
noncomputable def kw2:Nat->Int:=(cDo knc kE 0 0 1 (zcu ⟨0,0,0,0,0,0,4,2,0,[]⟩) kw0).2
noncomputable def kw3:Nat->Int:=zbg knc kw2 (nC knc)
noncomputable def kw4:Nat->Int:=(cDo knc kE 2 1 2 (zcu ⟨0,0,0,0,0,0,9,0,0,[]⟩) kw3).2
noncomputable def kw5:Nat->Int:=(cDo knc kE 0 2 5 (zcu ⟨0,0,0,0,0,88,0,0,0,[]⟩) kw4).2
theorem kv1:(cDo knc kE 0 3 4 (zcu ⟨0,0,0,0,0,0,0,0,0,[]⟩) kw0).1=(0,77,0):=by kernel_rfl
theorem kv2:(cDo knc kE 0 0 1 (zcu ⟨0,0,0,0,0,0,4,2,0,[]⟩) kw0).1=(0,0,0):=by kernel_rfl
theorem kv4:(cDo knc kE 2 1 2 (zcu ⟨0,0,0,0,0,0,9,0,0,[]⟩) kw3).1=(0,2,1):=by kernel_rfl
theorem kv5:(cDo knc kE 0 2 5 (zcu ⟨0,0,0,0,0,88,0,0,0,[]⟩) kw4).1=(0,0,0):=by kernel_rfl
theorem kr1:kw5 41=7:=by kernel_rfl
theorem kr2:kw5 42=8:=by kernel_rfl
theorem zDy:zB8=some true:=by
 obtain ⟨g,w⟩:=zbq zlE zsa
 obtain ⟨q,b1',hb,hb2⟩:=ztZ zlE zsa kn_fit.qx
 obtain ⟨W,l,o1,hWc,hWs,hlu,hWm,hlp⟩:=zBu kn_fit zNm
 have hl:l=kn.qo:=hlp q b1' (hb2 (of_decide_eq_true (by kernel_rfl)) fun j hj=>by
  have hj':j<1:=hj
  obtain rfl:j=0:=by omega
  refine⟨of_decide_eq_true (by kernel_rfl),fun a ha=>?_⟩
  have ha':a<6:=ha
  exact of_decide_eq_true (List.all_eq_true.1 zDM a (qF.2 ha')))
 subst hl
 have o1':zrg zB0=some (W,true):=o1
 have hcall:=zvl (c:=knc) zlE kn_fit.qi g
 have hm:W.m=some ⟨mk (nW knc) kw0⟩:=hWm
 have hI0:InvC knc kw0:=zrK g w (fun p hp=>(zhb g hp).2.2.1.1) hlu
 have p0:0<nP knc:=of_decide_eq_true (by kernel_rfl)
 have p2:2<nP knc:=of_decide_eq_true (by kernel_rfl)
 have z0:(0:Int)<=0/\(0:Int)<4294967296:=by omega
 have d1':zeB (some (zct knc kn.qi)) 0 3 4 (zcu ⟨0,0,0,0,0,0,0,0,0,[]⟩) (mk (nW knc) kw0)=some (zua (zcu ⟨0,0,0,0,0,0,0,0,0,[]⟩) (0,77,0),0,false,0,⟨mk (nW knc) kw0⟩):=by
  have h:=zxC g w hcall (hI0.part g w hcall.duc p0) p0 (e:=3) (by omega) (k:=4) (by omega) (x:=zcu ⟨0,0,0,0,0,0,0,0,0,[]⟩) ⟨z0,z0,z0⟩
  rw[kv1]at h
  exact h
 have d2':zeB (some (zct knc kn.qi)) 0 0 1 (zcu ⟨0,0,0,0,0,0,4,2,0,[]⟩) (mk (nW knc) kw0)=some (zua (zcu ⟨0,0,0,0,0,0,4,2,0,[]⟩) (0,0,0),0,false,0,⟨mk (nW knc) kw2⟩):=by
  have h:=zxC g w hcall (hI0.part g w hcall.duc p0) p0 (e:=0) (by omega) (k:=1) (by omega) (x:=zcu ⟨0,0,0,0,0,0,4,2,0,[]⟩) ⟨z0,by show(0:Int)<=4/\(4:Int)<4294967296;omega,by show(0:Int)<=2/\(2:Int)<4294967296;omega⟩
  rw[kv2]at h
  exact h
 have hI2:InvC knc kw2:=(zqj g w hcall hI0 p0 0 (by omega) _).1
 have t3':ztq (some (zct knc kn.qi)) (mk (nW knc) kw2)=some (0,⟨mk (nW knc) kw3⟩):=zvm g w hcall hI2
 have hI3:InvC knc kw3:=znP g w hcall hI2
 have d4':zeB (some (zct knc kn.qi)) 2 1 2 (zcu ⟨0,0,0,0,0,0,9,0,0,[]⟩) (mk (nW knc) kw3)=some (zua (zcu ⟨0,0,0,0,0,0,9,0,0,[]⟩) (0,2,1),0,false,0,⟨mk (nW knc) kw4⟩):=by
  have h:=zxC g w hcall (hI3.part g w hcall.duc p2) p2 (e:=1) (by omega) (k:=2) (by omega) (x:=zcu ⟨0,0,0,0,0,0,9,0,0,[]⟩) ⟨z0,by show(0:Int)<=9/\(9:Int)<4294967296;omega,z0⟩
  rw[kv4]at h
  exact h
 have hI4:InvC knc kw4:=(zqj g w hcall hI3 p2 1 (by omega) _).1
 have d5':zeB (some (zct knc kn.qi)) 0 2 5 (zcu ⟨0,0,0,0,0,88,0,0,0,[]⟩) (mk (nW knc) kw4)=some (zua (zcu ⟨0,0,0,0,0,88,0,0,0,[]⟩) (0,0,0),88,true,0,⟨mk (nW knc) kw5⟩):=by
  have h:=zxC g w hcall (hI4.part g w hcall.duc p0) p0 (e:=2) (by omega) (k:=5) (by omega) (x:=zcu ⟨0,0,0,0,0,88,0,0,0,[]⟩) ⟨by show(0:Int)<=88/\(88:Int)<4294967296;omega,z0,z0⟩
  rw[kv5]at h
  exact h
 have hN:=(zgZ g w).2
 have r1':zeE (some ⟨mk (nW knc) kw5⟩) 41=some (7,0):=(zkd (f:=kw5) (a:=41) (by omega) (of_decide_eq_true (by kernel_rfl))).trans (by rw[kr1])
 have r2':zeE (some ⟨mk (nW knc) kw5⟩) 42=some (8,0):=(zkd (f:=kw5) (a:=42) (by omega) (of_decide_eq_true (by kernel_rfl))).trans (by rw[kr2])
 have y1':zhL (some (zqk knc)) 0 1=some (⟨1,true⟩,true):=(zg7 g w (zzU knc) 0 1).trans (by kernel_rfl)
 have y2':znD (some (zqk knc)) 0 1=some (1,138,true):=by
  unfold znD
  simp only[Tree.run0,Tree.run,y1',qY]
  kernel_rfl
 have y3':zwe (some (zct knc kn.qi)) 0 1 (zcu ⟨0,0,0,0,0,1,0,0,0,[]⟩)=some ([50,138],0):=by
  have hwr:zpv (some (zct knc kn.qi)) 0 1=some 0:=by kernel_rfl
  have hlk:znD ((zct knc kn.qi).qg) 0 (i64.wrap (zcu ⟨0,0,0,0,0,1,0,0,0,[]⟩).qz.e1)=some (1,138,true):=y2'
  have hl : ∀ z,zv5 (some (zct knc kn.qi)) 0 1 (zcu ⟨0,0,0,0,0,1,0,0,0,[]⟩) (.l29 z)=some (z,0):=fun z=>by
   rw[zB4]
   simp only[zzE,Tree.run]
  unfold zwe zEJ
  simp only[Tree.run,qS,cnF,hwr,qY,qI,Bool.not_true,qA,cnT,qP,hlk,hl]
  exact Eq.trans (by kernel_rfl) rfl
 unfold zB8 zHx
 simp only[Tree.run,o1',zhI,hWs,hm,Bool.not_true,cnF,qS,zd8,qY,qP,d1']
 rw[zeP]
 simp only[zgb,Tree.run,zd8,qY,hWs,d2']
 rw[zeP]
 simp only[zgb,Tree.run,qY,hWs,t3']
 rw[zeP]
 simp only[zgb,Tree.run,zd8,qY,hWs,d4']
 rw[zeP]
 simp only[zgb,Tree.run,zd8,qY,hWs,d5']
 rw[zeP]
 simp only[zgb,Tree.run,qY,r1',r2']
 rw[zeP]
 simp only[zgb,Tree.run,zd8,qY,hWs,y3']
 rw[zeP]
 simp only[zgb,Tree.run,qI,Bool.not_true,cnF]
 rw[zeP]
 exact Eq.trans (by kernel_rfl) rfl
theorem zlC{n:Int}(h:Fit (.v (.int .u32 n))):0<=n/\n<4294967296:=by
 cases h with
 | int _ _ h0 h1=>
  simp[IntKind.min,IntKind.max,IntKind.signed,IntKind.bits]at h0 h1
  exact⟨by omega,by omega⟩
theorem zAD{l:List Int}(h:Fit (.sl (.i .u32) l))(j:Nat):0<=zt l j/\zt l j<4294967296:=by
 by_cases hj:j<l.length
 . exact zlC ((zca h).2 j 0 hj (by decide))
 . have:zt l j=0:=by simp[zt,List.getD,hj]
   rw[this];omega
theorem fitS{x:zp}(h : ∀ j,j<Ty.sz .sBulkheadlaw25Start->Fit ((Ty.enc .sBulkheadlaw25Start x).getD j .undef)):ztI x:=by
 obtain ⟨p1,p2⟩:=zca (t:=.sl (.i .u32)) (xs:=x.qo) (h 7 (by decide))
 obtain ⟨f1,f2⟩:=zca (t:=.sFeed) (xs:=x.qi) (h 8 (by decide))
 have hB:B47=140737488351232:=rfl
 have p1':x.qo.length*24<=B47:=p1
 have f1':x.qi.length*40<=B47:=f1
 refine⟨fitC fun j hj=>?_,⟨by omega,fun i hi=>(zca (t:=.i .u32) (xs:=(zA x.qi i).qx) (f2 i 2 hi (by decide))).1⟩,f1',by omega,fun i j=>?_⟩
 . have hj7:j<7:=hj
   match j,hj7 with
   | 0,_=>exact h 0 (by decide)
   | 1,_=>exact h 1 (by decide)
   | 2,_=>exact h 2 (by decide)
   | 3,_=>exact h 3 (by decide)
   | 4,_=>exact h 4 (by decide)
   | 5,_=>exact h 5 (by decide)
   | 6,_=>exact h 6 (by decide)
 . by_cases hi:i<x.qo.length
   . exact zAD (l:=zW x.qo i) (p2 i 0 hi (by decide)) j
   . have:zW x.qo i=[]:=by simp[zW,List.getD,hi]
     rw[this]
     exact zmz j
theorem zOU{xs:List zq}(h:Fit (.sl .sBulkheadlaw25Op xs))(i:Nat)(hi:i<xs.length):zGl (zh xs i):=
 ⟨zeM ((zca h).2 i 1 hi (by decide)),zeM ((zca h).2 i 3 hi (by decide)),zeM ((zca h).2 i 2 hi (by decide)),zlC ((zca h).2 i 5 hi (by decide)),zlC ((zca h).2 i 6 hi (by decide)),zlC ((zca h).2 i 7 hi (by decide))⟩
end Go.Proofs.YtgajeebphoiphaaGreatDoor
end
