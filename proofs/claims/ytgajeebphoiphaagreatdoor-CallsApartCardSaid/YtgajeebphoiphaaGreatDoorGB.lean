import Derived.Test.YtgajeebphoiphaaGreatDoorFN
import Derived.Test.YtgajeebphoiphaaGreatDoorA2
set_option linter.unusedVariables false
set_option linter.unusedSimpArgs false
set_option linter.unusedSectionVars false
noncomputable section
open Go.IntKind (i64 u32)
namespace Go.Proofs.YtgajeebphoiphaaGreatDoor
open Go.RowKit
noncomputable def zDB(c:za)(p:Nat)(k:Int):Bool:=(List.range (zaa c p)).any fun i=>((Pt c p i).ql==k)&&((Pt c p i).qb==true)
noncomputable def zqB(c:za)(p:Nat)(o:zaF):Bool:=
 cond (o.kind==9) true (cond (o.kind==1) (o.index==(p:Int)) (cond (o.kind==5) (o.index==(p:Int)) (cond (o.kind==7) (zDB c p o.index) (cond (o.kind==8) (o.index==(p:Int)) false))))
theorem zEm{c:za}{q a:Nat}(hq:q<nP c)(h:InT c q a):own c a=⟨9,(q:Int),0⟩:=by
 obtain ⟨h1,h2⟩:=h
 have hx:((16*(a / 16),16,⟨9,(q:Int),0⟩):Pc) ∈ zaG c:=ref_mem.2 (.tab hq (rep_mem.2 ⟨a / 16-tF c q,by omega,by congr 2;omega⟩))
 exact zqC hx (inP_iff.2 (show 16*(a / 16)<=a/\a<16*(a / 16)+16 by omega))
section
variable {c:za} (g:zaz c) (w:zei c)
include g w
theorem zHE{p:Nat}(hp:p<nP c)(k:Int):znH c (p:Int) k true=some (zDB c p k):=by
 have h8:=g.few.qt p hp
 have h:=zao (n:=zaa c p) (f:=fun i=>zs4 c (p:Int) k true (.l0 (i:Int))) (q:=fun i=>((Pt c p i).ql==k)&&((Pt c p i).qb==true)) (r:=some true) (e:=some false) (fun i hi=>by
  have hi':i<(zb c.qq p).qt.length:=hi
  rw[zjk]
  simp only[zok,tnC,zo (show p<c.qq.length from hp),zY hi',zo hi',cnT,zj i (show i<4611686018427387904 by omega),zfb,Tree.run]
  rfl) (by
  have hf:decide ((zaa c p:Int)<((zb c.qq p).qt.length:Int))=false:=z8 (qD)
  rw[zjk]
  simp only[zok,tnC,zo (show p<c.qq.length from hp),hf,cnT,cnF,Tree.run])
 unfold znH zAs
 refine Eq.trans h ?_
 unfold zDB
 cases (List.range (zaa c p)).any (fun i=>((Pt c p i).ql==k)&&((Pt c p i).qb==true)) <;> rfl
theorem zOW{p:Nat}(hp:p<nP c)(o:zaF):zwf c (p:Int) o=some (zqB c p o):=by
 unfold zwf zqB
 simp only[Tree.run0,Tree.run,zHE g w hp,qY]
 cases o.kind==9 <;> cases o.kind==1 <;> cases o.kind==5 <;> cases o.kind==7 <;> cases o.kind==8 <;> rfl
theorem zEs:zwc c=some ((List.range (nW c)).map (own c)):=by
 obtain ⟨w1,w2⟩:=zsn g w.kernel
 have ew:i64.wrap (16*c.qr)=(nW c:Int):=zz _ _ (by omega) (by omega)
 have l0:=zK (n:=nW c) (f:=fun i (xs:List zaF)=>zsK c (.l0 (i:Int) xs)) (S:=fun i=>(List.range i).map (own c)) (fun i hi=>by
  have ho:=zD0 g w.kernel (a:=i) (by omega)
  have e:(List.range (i+1)).map (own c)=(List.range i).map (own c)++[own c i]:=by rw[List.range_succ,List.map_append];rfl
  rw[zsL]
  simp only[zu7,ew,zY hi,cnT,ho,qY,qO,List.length_map,List.length_range,zaZ (show(i+1)*24<=140737488355328 by omega),zj i (show i<4611686018427387904 by omega),e,Tree.run])
 unfold zwc zEH
 refine(show zsK c (.l0 0 [])=_ from l0).trans ?_
 rw[zsL]
 simp only[zu7,ew,z8 (qD),cnF,Tree.run]
theorem zBf {p:Nat} (hp:p<nP c) {f:Nat->Int} (hf:U32 f) (z0:Int) : ∃ h:Nat->Int,zwd c (p:Int) (mk (nW c) f) ((List.range (nW c)).map (own c)) z0=some ⟨mk (nW c) h⟩/\U32 h/\∀ a,a<nW c->zqB c p (own c a)=true->h a=f a:=by
 obtain ⟨w1,w2⟩:=zsn g w.kernel
 have hlen:((List.range (nW c)).map (own c)).length=nW c:=by simp
 have hat : ∀ i,i<nW c->zpZ ((List.range (nW c)).map (own c)) i=own c i:=fun i hi=>by simp[zpZ,List.getD,hi]
 have key : ∀ m i,i+m=nW c->∀ (z:Int) (h:Nat->Int),U32 h->(∀ a,a<i->zqB c p (own c a)=true->h a=f a)->∃ h':Nat->Int,zsM c (p:Int) (mk (nW c) f) ((List.range (nW c)).map (own c)) z0 (.l0 z (i:Int) (mk i h))=some ⟨mk (nW c) h'⟩/\U32 h'/\∀ a,a<nW c->zqB c p (own c a)=true->h' a=f a:=by
  intro m
  induction m with
  | zero=>
   intro i hi z h hu hh
   obtain rfl:i=nW c:=by omega
   refine⟨h,?_,hu,hh⟩
   rw[zm5]
   simp only[zrG,zP,z8 (qD),cnF,(zsr g w h).1,qY,Tree.run]
  | succ m ih=>
   intro i hi z h hu hh
   have hin:i<nW c:=by omega
   have e19 : ∀ (z x:Int),0<=x/\x<4294967296->(zqB c p (own c i)=true->x=f i)->∃ h':Nat->Int,zsM c (p:Int) (mk (nW c) f) ((List.range (nW c)).map (own c)) z0 (.l19 z (i:Int) x (mk i h))=some ⟨mk (nW c) h'⟩/\U32 h'/\∀ a,a<nW c->zqB c p (own c a)=true->h' a=f a:=fun z x hx hxo=>by
    have e:mk i h++[x]=mk (i+1) (fun a=>if a=i then x else h a):=by
     rw[← zqy]
     congr 1
     . exact zbO fun a ha=>by rw[if_neg (by omega)]
     . rw[if_pos rfl]
    rw[zm5]
    simp only[zrG,zP,qO,zaZ (show(i+1)*4<=140737488355328 by omega),cnT,e,zj i (show i<4611686018427387904 by omega),Tree.run]
    refine ih (i+1) (by omega) z _ (fun a=>?_) fun a ha hao=>?_
    . show 0<=(if a=i then x else h a)/\(if a=i then x else h a)<_
      split
      . exact hx
      . exact hu a
    . show(if a=i then x else h a)=f a
      split
      . rename_i e
        subst e
        exact hxo hao
      . exact hh a (by omega) hao
   rw[zm5]
   simp only[zrG,zP,zY hin,zo hin,cnT,hlen,tnC,hat i hin,zOW g w hp,qY,zbf hin,Tree.run]
   cases ho:zqB c p (own c i)with
   | false=>exact e19 _ _ (zlQ _) fun h=>by rw[ho]at h;cases h
   | true=>exact e19 _ _ (hf i) fun _=>rfl
 unfold zwd zEI
 exact key (nW c) 0 (Nat.zero_add _) z0 (fun _=>0) (fun _=>⟨Int.le_refl _,by show(0:Int)<_;omega⟩) fun a ha=>absurd ha (Nat.not_lt_zero _)
section
variable {s:zr} {D:zG} {d:zR} {v:zae} (hs:zlU c s D d v) {p:Nat} (hp:p<nP c) {f h:Nat->Int} (hA : ∀ a,a<nW c->zqB c p (own c a)=true->h a=f a)
include hp hA
theorem ziz{q k a:Nat}(hq:q<zaa c p)(hk1:(Pt c p q).ql=(k:Int))(hsrc:(Pt c p q).qb=true)(hk:k<nC c)(h1:sAt c k<=a)(h2:a<sAt c k+stg (Ch c k)):h a=f a:=by
 have hle:=(zdb g w hk).qn
 refine hA a (by omega) ?_
 rw[zoU hk ⟨h1,h2⟩]
 show zDB c p (k:Int)=true
 exact any_t.2 ⟨q,hq,by rw[hk1,hsrc];simp⟩
theorem zpW{j k a:Nat}{q:Int}(hk:k<nC c)(hj:j<kD c k)(he:zZ (dl c k) j=⟨(p:Int),q⟩)(h1:psC c k j<=a)(h2:a<psC c k j+prt (Ch c k)):h a=f a:=by
 have hle:=(zdb g w hk).port j hj
 refine hA a (by omega) ?_
 rw[zsu hk hj ⟨h1,h2⟩,he]
 show((p:Int)==(p:Int))=true
 simp
theorem zek{i:Nat}(hi:i<5):h (stA c p+i)=f (stA c p+i):=by
 obtain ⟨n1,_⟩:=ztu g w hp
 refine hA _ (by omega) ?_
 rw[zoV g w hp hi]
 show((p:Int)==(p:Int))=true
 simp
theorem zzn{i y:Nat}(hy:InR c p i y)(hy2:y<nW c):h y=f y:=by
 refine hA _ hy2 ?_
 rw[zvL g w hp hy]
 show((p:Int)==(p:Int))=true
 simp
include hs
theorem zGX(hI:zry c p f)(hu:U32 h):zry c p h:=by
 refine⟨⟨hu,fun p' q k e hp' hq hc hsrc hk=>?_,fun p' q k e hp' hq hc hsrc hk=>?_⟩,fun a ha=>?_,?_⟩
 . obtain rfl:p=p':=by omega
   exact zcl (g.chan k hk).1 (fun i hi=>(ziz g w hp hA hq hc hsrc hk (by omega) (by omega)).symm) (hI.w.st p q k rfl hp hq hc hsrc hk)
 . obtain rfl:p=p':=by omega
   obtain ⟨j1,j2,_⟩:=zp0 g w hs.duc hk (zcV hp hq hc hsrc)
   exact zcg (g.chan k hk).1 (fun i hi=>(zpW g w hp hA hk j1 j2 (by omega) (by omega)).symm) (hI.w.pt p q k rfl hp hq hc hsrc hk)
 . obtain ⟨_,h2⟩:=zpP g w hp ha
   have hto:=(zgZ g w).1
   rw[hA a (by omega) (by rw[zEm hp ha];rfl)]
   exact hI.tab a ha
 . have e0:=zek g w hp hA (i:=0) (by omega)
   rw[Nat.add_zero]at e0
   rw[e0,zek g w hp hA (i:=1) (by omega),zek g w hp hA (i:=2) (by omega),zek g w hp hA (i:=3) (by omega),zek g w hp hA (i:=4) (by omega)]
   exact hI.st
def zlT(f f' h h':Nat->Int)(a:Nat):Prop:=(f' a=f a/\h' a=h a) ∨ (f' a=h' a/\f a=h a)
omit hs hp hA g w in
theorem zel{R:Nat->Int}{b n:Nat}(e : ∀ a,b<=a->a<b+n->h a=f a)(a:Nat):zlT f (over f b n R) h (over h b n R) a:=by
 by_cases hc:b<=a/\a<b+n
 . refine .inr ⟨?_,(e a hc.1 hc.2).symm⟩
   unfold over
   rw[if_pos hc,if_pos hc]
 . exact .inl ⟨zaB hc,zaB hc⟩
theorem zDc(q:Int)(m:List Int):(zgC c (p:Int) q m h).1=(zgC c (p:Int) q m f).1/\∀ a,zlT f (zgC c (p:Int) q m f).2 h (zgC c (p:Int) q m h).2 a:=by
 have same : ∀ t:Int,t=t/\∀ a,zlT f f h h a:=fun t=>⟨rfl,fun a=>.inl ⟨rfl,rfl⟩⟩
 unfold zgC
 cases hq:zbk c (p:Int) q with
 | none=>exact same 1
 | some x=>
  obtain ⟨p',q',k,hpp,rfl,hp',hq',rfl,hk1,hk⟩:=za6 g w hs.duc hq
  obtain rfl:p=p':=by omega
  dsimp only
  cases hsrc:(Pt c p q').qb with
  | false=>exact same 2
  | true=>
   rw[hk1,tnC]
   dsimp only [cnT]
   split
   . exact same 3
   . have hw:stW c h k=stW c f k:=zuT fun i h1 h2=>ziz g w hp hA hq' hk1 hsrc hk h1 h2
     unfold zye
     rw[hw]
     exact⟨rfl,fun a=>zel (fun a h1 h2=>ziz g w hp hA hq' hk1 hsrc hk h1 h2) a⟩
theorem zpY{q:Int}{x:zb9}(hq:zbk c (p:Int) q=some x)(hsrc:x.qb=false):ptW c h x.ql.toNat (zcC c x.ql.toNat p q)=ptW c f x.ql.toNat (zcC c x.ql.toNat p q)/\∀ a,psC c x.ql.toNat (zcC c x.ql.toNat p q)<=a->a<psC c x.ql.toNat (zcC c x.ql.toNat p q)+prt (Ch c x.ql.toNat)->h a=f a:=by
 obtain ⟨p',q',k,hpp,rfl,hp',hq',rfl,hk1,hk⟩:=za6 g w hs.duc hq
 obtain rfl:p=p':=by omega
 obtain ⟨j1,j2,_⟩:=zp0 g w hs.duc hk (zcV hp hq' hk1 hsrc)
 rw[hk1,tnC]
 exact⟨zuT fun i h1 h2=>zpW g w hp hA hk j1 j2 h1 h2,fun a h1 h2=>zpW g w hp hA hk j1 j2 h1 h2⟩
theorem zDe(q:Int) : ∀ a,zlT f (zfw c (p:Int) q f) h (zfw c (p:Int) q h) a:=by
 unfold zfw
 cases hq:zbk c (p:Int) q with
 | none=>exact fun a=>.inl ⟨rfl,rfl⟩
 | some x=>
  dsimp only
  cases hsrc:x.qb with
  | true=>exact fun a=>.inl ⟨rfl,rfl⟩
  | false=>
   obtain ⟨e1,e2⟩:=zpY g w hs hp hA hq hsrc
   dsimp only [cnF]
   split
   . rw[e1]
     exact fun a=>zel e2 a
   . exact fun a=>.inl ⟨rfl,rfl⟩
theorem zDb(q:Int):zcw c (p:Int) q h=zcw c (p:Int) q f:=by
 unfold zcw
 cases hq:zbk c (p:Int) q with
 | none=>rfl
 | some x=>
  dsimp only
  cases hsrc:x.qb with
  | true=>rfl
  | false=>
   rw[(zpY g w hs hp hA hq hsrc).1]
theorem zDd(q:Int):zhA c (p:Int) q h=zhA c (p:Int) q f:=by
 unfold zhA
 cases hq:zbk c (p:Int) q with
 | none=>rfl
 | some x=>
  dsimp only
  cases hsrc:x.qb with
  | false=>
   dsimp only [cnF]
   rw[(zpY g w hs hp hA hq hsrc).1]
  | true=>
   dsimp only [cnT]
   obtain ⟨p',q',k,hpp,rfl,hp',hq',rfl,hk1,hk⟩:=za6 g w hs.duc hq
   obtain rfl:p=p':=by omega
   rw[hk1,tnC]
   have hw:stW c h k=stW c f k:=zuT fun i h1 h2=>ziz g w hp hA hq' hk1 hsrc hk h1 h2
   unfold zrj
   rw[hw]
omit hs g w hp hA in
theorem ztB{l m:List Int}{F H:Nat->Int}(a:Nat) : ∀ n,(wrF l m F n a=F a/\wrF l m H n a=H a) ∨ (wrF l m F n a=wrF l m H n a/\∃ i,i<n/\a=(zt l i).toNat)
 | 0=>.inl ⟨rfl,rfl⟩
 | n+1=>by
  by_cases hn:a=(zt l n).toNat
  . refine .inr ⟨?_,n,by omega,hn⟩
    show over _ _ 1 _ a=over _ _ 1 _ a
    unfold over
    rw[if_pos (by omega),if_pos (by omega)]
  . have e1:wrF l m F (n+1) a=wrF l m F n a:=zaB (by omega)
    have e2:wrF l m H (n+1) a=wrF l m H n a:=zaB (by omega)
    rw[e1,e2]
    rcases ztB (l:=l) (m:=m) (F:=F) (H:=H) a n with h | ⟨h,i,hi,ha⟩
    . exact .inl h
    . exact .inr ⟨h,i,by omega,ha⟩
theorem zMr (E:List (zQ × List Int)) (e:Int) (k:Nat) (x:zB):(cDo c E p e k x h).1=(cDo c E p e k x f).1/\∀ a,zlT f (cDo c E p e k x f).2 h (cDo c E p e k x h).2 a:=by
 have same : ∀ t:Int × Int × Int,t=t/\∀ a,zlT f f h h a:=fun t=>⟨rfl,fun a=>.inl ⟨rfl,rfl⟩⟩
 have st0 : ∀ a,stA c p<=a->a<stA c p+1->h a=f a:=fun a h1 h2=>by
  obtain rfl:a=stA c p+0:=by omega
  exact zek g w hp hA (by omega)
 unfold cDo
 split
 . exact⟨rfl,fun a=>zel (R:=fun _=>1) st0 a⟩
 . unfold ze9
   split
   . split
     . exact⟨rfl,fun a=>.inl ⟨rfl,rfl⟩⟩
     . cases hl:zeQ c p 1 x.qz.e2 x.qz.e3.toNat with
       | none=>exact⟨rfl,fun a=>.inl ⟨rfl,rfl⟩⟩
       | some l=>
        have hm:(l.map fun z=>h z.toNat)=l.map fun z=>f z.toNat:=List.map_congr_left fun z hz=>by
         obtain ⟨b,hb⟩:=(zfy g w hp hl).2 z hz
         obtain ⟨y,i,hy,hy2,hi,h1,h2,_⟩:=zlX g w hp hb
         rw[hy,tnC]
         exact zzn g w hp hA ⟨hi,h1,h2⟩ hy2
        dsimp only
        rw[hm]
        obtain ⟨s1,s2⟩:=zDc g w hs hp hA x.qz.e1 (l.map fun z=>f z.toNat)
        exact⟨by rw[s1],s2⟩
   . exact⟨rfl,fun a=>.inl ⟨rfl,rfl⟩⟩
 . unfold zeK
   rw[zDb g w hs hp hA]
   split
   . cases hl:zeQ c p 2 x.qz.e2 (zcw c (p:Int) x.qz.e1 f).2.1.length with
     | none=>exact⟨rfl,fun a=>.inl ⟨rfl,rfl⟩⟩
     | some l=>
      refine⟨rfl,fun a=>?_⟩
      dsimp only
      rcases ztB (l:=l) (m:=(zcw c (p:Int) x.qz.e1 f).2.1) (F:=zfw c (p:Int) x.qz.e1 f) (H:=zfw c (p:Int) x.qz.e1 h) a l.length with ⟨h1,h2⟩ | ⟨h1,i,hi,ha⟩
      . unfold zlT
        rw[h1,h2]
        exact zDe g w hs hp hA x.qz.e1 a
      . refine .inr ⟨h1,?_⟩
        have hat:zt l i=l[i]:=by simp[zt,List.getD,hi]
        obtain ⟨b,hb⟩:=(zfy g w hp hl).2 l[i] (List.getElem_mem _)
        obtain ⟨y,j,hy,hy2,hj,r1,r2,_⟩:=zlX g w hp hb
        rw[hat,hy,tnC]at ha
        subst ha
        exact(zzn g w hp hA ⟨hj,r1,r2⟩ hy2).symm
   . exact⟨rfl,fun a=>.inl ⟨rfl,rfl⟩⟩
 . rw[zDd g w hs hp hA]
   exact⟨rfl,fun a=>.inl ⟨rfl,rfl⟩⟩
 . exact⟨rfl,fun a=>.inl ⟨rfl,rfl⟩⟩
 . have e4:=zek g w hp hA (i:=4) (by omega)
   unfold zeT
   rw[e4]
   split
   . exact⟨rfl,fun a=>.inl ⟨rfl,rfl⟩⟩
   . exact⟨rfl,fun a=>zel (b:=stA c p+4) (n:=1) (R:=fun _=>f (stA c p+4)+1) (fun a h1 h2=>by
      obtain rfl:a=stA c p+4:=by omega
      exact e4) a⟩
 . exact⟨rfl,fun a=>.inl ⟨rfl,rfl⟩⟩
 . exact⟨rfl,fun a=>zel (R:=fun _=>3) st0 a⟩
end
end
theorem ztO{x:zp}(hx:ztI x)(h:okB x.qj x.qi=true){script:List zq}(hl:script.length<=140737488355328)(ho : ∀ i,i<script.length->zGl (zh script i))(noise:Int){W:zS}(hW1:W.c=x.qj)(hW2:W.s=some (zct x.qj x.qi)) :
 ∀ m i,i+m=script.length->∀ f,InvC x.qj f->zB5 x script noise (.l0 (W,true) ((List.range (nW x.qj)).map (own x.qj)) (i:Int) (mk (nW x.qj) f))=some true:=by
 have hc:=hx.qj
 have hv:zbK x.qj=true:=by
  unfold okB at h
  simp only[qH]at h
  exact h.2.1
 obtain ⟨g,w⟩:=zbq hc hv
 obtain ⟨w1,w2⟩:=zsn g w.kernel
 have hcall:=zvl (c:=x.qj) hc hx.qi g
 intro m
 induction m with
 | zero=>
  intro i hi f hI
  rw[zlL]
  simp only[zxw,z8 (show script.length<=i by omega),cnF,Tree.run]
 | succ m ih=>
  intro i hi f hI
  have hil:i<script.length:=by omega
  obtain ⟨o1,o2,o3,o4,o5,o6⟩:=ho i hil
  rw[zlL]
  simp only[zxw,zY hil,zo hil,cnT,tnC,hW1,hW2,zj i (show i<4611686018427387904 by omega),Tree.run]
  cases (zh script i).kind==4 with
  | true=>
   simp only[cnT,zvm g w hcall hI,qY,qI,Bool.not_true,cnF]
   exact ih (i+1) (by omega) _ (znP g w hcall hI)
  | false=>
   obtain ⟨p,hp,p1'⟩:=zuB o1 (n:=nP x.qj) (by have:=g.least;unfold nP;omega)
   have p2':zf1 (zh script i).p (x.qj.qq.length:Int)=some (p:Int):=p1'
   obtain ⟨k,hk,k1'⟩:=zuB o2 (n:=8) (by omega)
   have k2':zf1 (zh script i).call 8=some (k:Int):=k1'
   obtain ⟨e,he,e1'⟩:=zuB o3 (n:=1073741824) (by omega)
   have e2':zf1 (zh script i).qu 1073741824=some (e:Int):=e1'
   have hIp:=hI.part g w hcall.duc hp
   obtain ⟨q,n1',hqu,hqA⟩:=zBf g w hp hI.w.u (u32.wrap (noise+u32.wrap (i:Int)))
   have hIq:=zGX g w hcall hp hqA hIp hqu
   have d1':=zxC g w hcall hIp hp (e:=(e:Int)) (by omega) hk (x:=zcu ⟨(zh script i).kind,(p:Int),(e:Int),(k:Int),(zh script i).a,(zh script i).r1,(zh script i).r2,(zh script i).r3,(zh script i).w,(zh script i).list⟩) ⟨o4,o5,o6⟩
   have d2':=zxC g w hcall hIq hp (e:=(e:Int)) (by omega) hk (x:=zcu ⟨(zh script i).kind,(p:Int),(e:Int),(k:Int),(zh script i).a,(zh script i).r1,(zh script i).r2,(zh script i).r3,(zh script i).w,(zh script i).list⟩) ⟨o4,o5,o6⟩
   obtain ⟨hI',_,_⟩:=zqj g w hcall hI hp (e:Int) hk (zcu ⟨(zh script i).kind,(p:Int),(e:Int),(k:Int),(zh script i).a,(zh script i).r1,(zh script i).r2,(zh script i).r3,(zh script i).w,(zh script i).list⟩)
   obtain ⟨a1,a2⟩:=zMr g w hcall hp hqA (zdB x.qj x.qi).qi (e:Int) k (zcu ⟨(zh script i).kind,(p:Int),(e:Int),(k:Int),(zh script i).a,(zh script i).r1,(zh script i).r2,(zh script i).r3,(zh script i).w,(zh script i).list⟩)
   rw[a1]at d2'
   have j1:=ih (i+1) (by omega) _ hI'
   generalize cDo x.qj (zdB x.qj x.qi).qi p (e:Int) k (zcu ⟨(zh script i).kind,(p:Int),(e:Int),(k:Int),(zh script i).a,(zh script i).r1,(zh script i).r2,(zh script i).r3,(zh script i).w,(zh script i).list⟩) f=R at *
   generalize cDo x.qj (zdB x.qj x.qi).qi p (e:Int) k (zcu ⟨(zh script i).kind,(p:Int),(e:Int),(k:Int),(zh script i).a,(zh script i).r1,(zh script i).r2,(zh script i).r3,(zh script i).w,(zh script i).list⟩) q=Q at *
   obtain ⟨⟨t1,t2,t3⟩,f'⟩:=R
   obtain ⟨_,q'⟩:=Q
   dsimp only at d1' d2' j1 a2
   simp only[cnF,p2',k2',e2',zEt (N:=nW x.qj) (by omega),n1',zd8,d1',d2',qY]
   simp only[qI,Bool.not_true,qY,cnF,Bool.and_self,Bool.and_true,zP]
   have l4:=zK (n:=nW x.qj) (f:=fun b (_:Unit)=>zB5 x script noise (.l4 (W,true) (zua (zcu ⟨(zh script i).kind,(p:Int),(e:Int),(k:Int),(zh script i).a,(zh script i).r1,(zh script i).r2,(zh script i).r3,(zh script i).w,(zh script i).list⟩) (t1,t2,t3),cond (Nat.beq k 5&&t1==0) (zcu ⟨(zh script i).kind,(p:Int),(e:Int),(k:Int),(zh script i).a,(zh script i).r1,(zh script i).r2,(zh script i).r3,(zh script i).w,(zh script i).list⟩).qz.e1 0,Nat.beq k 5&&t1==0,0,⟨mk (nW x.qj) f'⟩) ((List.range (nW x.qj)).map (own x.qj)) (mk (nW x.qj) f) (mk (nW x.qj) q) (mk (nW x.qj) f') (mk (nW x.qj) q') (i:Int) (b:Int))) (S:=fun _=>()) (fun b hb=>by
    have hd:u32.wrap (f' b-f b)=u32.wrap (q' b-q b):=by
     rcases a2 b with ⟨h1,h2⟩ | ⟨h1,h2⟩
     . rw[h1,h2,Int.sub_self,Int.sub_self]
     . rw[h1,h2]
    rw[zlL]
    simp only[zxw,zP,zY hb,zo hb,cnT,tnC,zbf hb,hd,qI,Bool.not_true,cnF,zj b (show b<4611686018427387904 by omega),Tree.run])
   refine Eq.trans l4 ?_
   rw[zlL]
   simp only[zxw,zP,z8 (qD),cnF,zj i (show i<4611686018427387904 by omega),Tree.run]
   exact j1
theorem zmt{x:zp}(hx:ztI x){script:List zq}(hl:script.length<=140737488355328)(ho : ∀ i,i<script.length->zGl (zh script i))(noise:Int):zJY x script noise=some true:=by
 obtain ⟨b,b1'⟩:=zzz hx
 unfold zJY ent4
 simp only[Tree.run,zDy,qY,Bool.not_true,cnF,b1']
 cases b with
 | true=>rfl
 | false=>
  cases h:okB x.qj x.qi with
  | false=>
   obtain ⟨f1,W,f2⟩:=zJF hx h
   simp only[cnF,f1,zgu,f2,qY,Bool.not_true]
  | true=>
   obtain ⟨W,l,o1',hWc,hWs,hlu,hWm,_⟩:=zBu hx h
   have hv:zbK x.qj=true:=by
    unfold okB at h
    simp only[qH]at h
    exact h.2.1
   obtain ⟨g,w⟩:=zbq hx.qj hv
   have hI:=zrK g w (fun p hp=>(zhb g hp).2.2.1.1) hlu
   simp only[cnF,o1',zhI,Bool.not_true,hWs,qS,hWm,qP,hWc,zEs g w,qY]
   exact ztO hx h hl ho noise hWc hWs script.length 0 (Nat.zero_add _) _ hI
end Go.Proofs.YtgajeebphoiphaaGreatDoor
end
