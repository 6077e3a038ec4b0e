import Derived.Test.YtgajeebphoiphaaGreatDoorS3
import Derived.Laws.CopyRow
import Derived.Maps.AppendAt
set_option linter.unusedVariables false
set_option linter.unusedSimpArgs false
noncomputable section
namespace Go.Proofs.YtgajeebphoiphaaGreatDoor
open Go.RowKit
def Al(st st':St):Prop:=st'.gl=st.gl/\st'.np=st.np/\st.heap.length<=st'.heap.length
theorem Al.refl(st:St):Al st st:=⟨rfl,rfl,Nat.le_refl _⟩
theorem Al.trans{a b c:St}(h:Al a b)(k:Al b c):Al a c:=⟨k.1.trans h.1,k.2.1.trans h.2.1,Nat.le_trans h.2.2 k.2.2⟩
theorem zbs(st:St)(d:Option Nat)(x:AV):Al st (st.put d x):=by cases d <;> exact⟨rfl,rfl,Nat.le_refl _⟩
theorem zqr(st:St)(d t:Nat)(x:AV):(st.set d x).get t=if t=d/\d<st.env.length then x else st.get t:=by
 unfold St.get St.set
 simp only[List.getD,List.getElem?_set]
 by_cases h:d=t
 . subst h
   by_cases h':d<st.env.length
   . simp[h']
   . simp[h',List.getElem?_eq_none (Nat.le_of_not_lt h')]
 . simp[h,show ¬ t=d from fun e=>h e.symm]
theorem zqO{st:St}{d:Nat}{x:AV}(h:st.get d=x):st.set d x=st:=by
 subst h
 unfold St.set St.get
 have:st.env.set d (st.env.getD d .undef)=st.env:=by
  by_cases hd:d<st.env.length
  . simp[List.getD,hd]
  . rw[List.set_eq_of_length_le (Nat.le_of_not_lt hd)]
 rw[this]
section
variable {P:Program} {B:Bs} {F:Nat->Prop} {β:Gh} {st:St} {a:Act} {w:World}
theorem Rel.put (h:Rel B F β st a w) (d:Option Nat) {x:AV} {y:Value} (hxy:V F w β x y):Rel B F β (st.put d x) (a.put d y) w:=by
 cases d with
 | none=>exact h
 | some d=>
  refine⟨?_,fun t=>?_,h.gl,h.df,h.kept,h.fo,h.fi,h.lo,h.per,h.bn,h.nw,h.hn,h.heap⟩
  . simp[St.put,St.set,Act.put,h.len]
  . show V F w β ((st.set d x).get t) _
    rw[zqr]
    simp only[Act.put,Array.getD_eq_getD_getElem?,Array.getElem?_setIfInBounds]
    by_cases ht:t=d
    . subst ht
      by_cases hd:t<st.env.length
      . have hd':t<a.tmps.size:=by rw[← h.len];exact hd
        simp only[hd,and_self,if_true,hd',Option.getD_some]
        exact hxy
      . have hd' : ¬ t<a.tmps.size:=by rw[← h.len];exact hd
        simp only[hd,and_false,if_false,hd',if_true,Option.getD_none]
        have:=h.env t
        rw[Array.getD_eq_getD_getElem?,Array.getElem?_eq_none (by omega)]at this
        exact this
    . rw[if_neg (fun e=>ht e.1),if_neg (fun e=>ht e.symm)]
      have:=h.env t
      rwa [Array.getD_eq_getD_getElem?]at this
theorem zyd(h:Rel B F β st a w){d:Nat}{t:Bool}(hd:st.get d=.v (.bool t)):a.tmps[d]?=some (.bool t):=by
 have hv:=h.env d
 rw[hd]at hv
 have:=V_v hv
 rw[Array.getD_eq_getD_getElem?]at this
 cases hq:a.tmps[d]? with
 | none=>rw[hq]at this;simp[undef]at this
 | some z=>rw[hq]at this;simpa using this
theorem zaS{o:Oper}{y:Value}{w':World}{next:Act->World->Prop}{Q:Exit->Act->World->Prop}(hrun:(execOp a.eval o).run P w=.ok (.value y) w')(hn:next (a.put o.dst y) w'):o.wp P a w next Q:=by
 unfold Oper.wp;rw[hrun];exact hn
theorem Rel.heapTo(h:Rel B F β st a w){F':Nat->Prop}{β':Gh}{hp:List Blk}{w':World}(hE:Ext F F' w w')(hβ:β.Le β')(hk:Keeps B.M B.w w')(hfo : ∀ p,F' p->B.F p ∨ B.M p ∨ B.w.heap.size<=p)(hF : ∀ p,F p->F' p)
 (hlo : ∀ p κ,β'.o p=some κ->B.M p ∨ B.w.heap.size<=p) (hnw : ∀ b,β'.l b->β.l b ∨ st.heap.length<=b) (hln:st.heap.length<=hp.length) (hh:HOk F' w' β' hp):Rel B F' β' { st with heap:=hp } a w':=
 ⟨h.len,fun t=>(h.env t).mono hE hβ,fun g=>(h.gl g).mono hE,h.df.imp fun _ _ hv=>hv.mono hE hβ,hk,hfo,fun p hp=>hF p (h.fi p hp),hlo,h.per.trans hβ,h.bn,fun b hb=>(by
  rcases hnw b hb with h1 | h1
  . exact h.nw b h1
  . exact .inr (Nat.le_trans h.hn h1)),Nat.le_trans h.hn hln,hh⟩
theorem HOk.step{hp:List Blk}(h:HOk F w β hp)(n:Nat){hp':List Blk}{β':Gh}{F':Nat->Prop}{w':World}(hE:Ext F F' w w')(hβ:β.Le β')(hfb : ∀ p,F' p->p<w'.heap.size)(hlt : ∀ p κ,β'.o p=some κ->p<w'.heap.size)(hsep : ∀ p κ,β'.o p=some κ->¬ F' p)
 (hlive : ∀ b,β'.l b->b<hp'.length) (hold : ∀ b k,b ≠ n->hp'[b]?=some k->hp[b]?=some k)
 (hkeep : ∀ b k,b ≠ n->hp[b]?=some k->k ≠ .dead->(β'.b b=β.b b/\β'.v b=β.v b)/\∀ p s,β.o p=some (b,s)->β'.o p=some (b,s)/\w'.heap[p]?=w.heap[p]?)
 (hnew : ∀ k,hp'[n]?=some k->BlkOk F' w' β' n k):HOk F' w' β' hp':=by
 refine⟨hfb,fun b k hb=>?_,hlt,hsep,hlive⟩
 by_cases hbn:b=n
 . subst hbn;exact hnew k hb
 . have hb':=hold b k hbn hb
   by_cases hd:k=.dead
   . subst hd;trivial
   obtain ⟨q1,q2⟩:=hkeep b k hbn hb' hd
   exact(h.blk b k hb').mono hE hβ q1 q2
theorem zdt{hp:List Blk}{k k':Blk}{b:Nat}(hb:b ≠ hp.length)(h:(hp++[k])[b]?=some k'):hp[b]?=some k':=by
 by_cases hlt:b<hp.length
 . rwa [List.getElem?_append_left hlt]at h
 . have:=(List.getElem?_eq_some_iff.1 h).1
   simp at this;omega
theorem zfI{hp:List Blk}{k k':Blk}(h:(hp++[k])[hp.length]?=some k'):k'=k:=by simpa using h.symm
theorem zak{hp:List Blk}{k k':Blk}{b n:Nat}(hb:b ≠ n)(h:(hp.set n k)[b]?=some k'):hp[b]?=some k':=by rwa [List.getElem?_set,if_neg (fun e=>hb e.symm)]at h
theorem zT{hp:List Blk}{k k':Blk}{n:Nat}(h:(hp.set n k)[n]?=some k'):k'=k:=by
 rw[List.getElem?_set,if_pos rfl]at h
 split at h <;> simp_all
def Gh.box(β:Gh)(n p:Nat):Gh:=⟨fun b=>if b=n then p else β.b b,β.v,fun q=>if q=p then some (n,none)else β.o q,fun b=>b=n ∨ β.l b⟩
def Gh.row(β:Gh)(n:Nat)(v:Value)(T:Nat->Option (Nat × Nat)):Gh:=⟨β.b,fun b=>if b=n then v else β.v b,fun q=>if v.ownBlock=some q then some (n,none)else match T q with | some s=>some (n,some s) | none=>β.o q,fun b=>b=n ∨ β.l b⟩
def Gh.free(β:Gh)(b:Nat):Gh:=⟨β.b,β.v,fun q=>match β.o q with | some (c,s)=>if c=b then none else some (c,s) | none=>none,β.l⟩
theorem free_o{β:Gh}{b p:Nat}{κ:Nat × Option (Nat × Nat)}:(β.free b).o p=some κ ↔ β.o p=some κ/\κ.1 ≠ b:=by
 simp only[Gh.free]
 cases hq:β.o p with
 | none=>simp
 | some κ'=>
  obtain ⟨c,s⟩:=κ'
  by_cases hc:c=b
  . subst hc;simp
    rintro rfl;simp
  . simp only[if_neg hc,Option.some.injEq]
    constructor
    . rintro rfl;exact⟨rfl,hc⟩
    . exact fun h=>h.1
theorem Gh.free_le(β:Gh)(b:Nat):β.Le (β.free b):=fun c hc=>⟨hc,rfl,rfl⟩
theorem Gh.box_le{β:Gh}{n p:Nat}(hn : ¬ β.l n):β.Le (β.box n p):=fun b hb=>⟨.inr hb,by simp only[Gh.box];rw[if_neg (fun(e:b=n)=>hn (e ▸ hb))],rfl⟩
theorem Gh.row_le{β:Gh}{n:Nat}{v:Value}{T:Nat->Option (Nat × Nat)}(hn : ¬ β.l n):β.Le (β.row n v T):=fun b hb=>⟨.inr hb,rfl,by simp only[Gh.row];rw[if_neg (fun(e:b=n)=>hn (e ▸ hb))]⟩
theorem zgm{hp:List Blk}(h:HOk F w β hp) : ¬ β.l hp.length:=fun hl=>Nat.lt_irrefl _ (h.live _ hl)
theorem HOk.alloc{hp:List Blk}(h:HOk F w β hp){e:TypeId}{cs:List AV}{ys:Array Value}(T:TypeId)(hl:ys.size=cs.length)(hc : ∀ j,j<cs.length->V F w β (cs.getD j .undef) (ys.getD j undef)) :
 HOk F (w.alloc (.cells ys T)) (β.box hp.length w.heap.size) (hp++[.cells e cs]):=by
 have hE:Ext F F w (w.alloc (.cells ys T)):=⟨by simp,fun b hF hb=>⟨hF,Below.heap_alloc _ _ _ hb⟩⟩
 have hβ:=Gh.box_le (p:=w.heap.size) (zgm h)
 refine h.step hp.length hE hβ (fun p hF=>by have:=h.fb p hF;simp;omega) (fun p κ hp'=>?_) (fun p κ hp' hF=>?_) (fun b hb=>?_) (fun b k hb hk=>zdt hb hk) (fun b k hb hk _=>⟨⟨by simp only[Gh.box];rw[if_neg hb],rfl⟩,fun p s hp'=>?_⟩) (fun k hk=>?_)
 . simp only[Gh.box]at hp'
   split at hp'
   . subst p;simp
   . have:=h.lt p κ hp';simp;omega
 . simp only[Gh.box]at hp'
   split at hp'
   . have:=h.fb _ hF;omega
   . exact h.sep p κ hp' hF
 . rcases hb with rfl | hb
   . simp
   . have:=h.live b hb;simp;omega
 . have:=h.lt p _ hp'
   refine⟨by simp only[Gh.box];rw[if_neg (by omega)];exact hp',Below.heap_alloc _ _ _ this⟩
 . obtain rfl:=zfI hk
   have hb:(β.box hp.length w.heap.size).b hp.length=w.heap.size:=by simp[Gh.box]
   exact⟨ys,T,by rw[hb];exact heap_alloc_new w _,hl,by rw[hb];simp[Gh.box],fun j hj=>(hc j hj).mono hE hβ⟩
theorem Rel.alloc(h:Rel B F β st a w){e:TypeId}{cs:List AV}{ys:Array Value}(T:TypeId)(hl:ys.size=cs.length)(hc : ∀ j,j<cs.length->V F w β (cs.getD j .undef) (ys.getD j undef))(d:Option Nat) :
 Rel B F (β.box st.heap.length w.heap.size) (({ st with heap:=st.heap++[.cells e cs] }:St).put d (.ref st.heap.length 0)) (a.put d (.pointer (some ⟨w.heap.size,0,none⟩))) (w.alloc (.cells ys T)):=by
 have hE:Ext F F w (w.alloc (.cells ys T)):=⟨by simp,fun b hF hb=>⟨hF,Below.heap_alloc _ _ _ hb⟩⟩
 have hbl:Below w.heap.size w (w.alloc (.cells ys T)):=(Below.refl _ _).alloc (Nat.le_refl _) _
 have h1:=h.heapTo (hp:=st.heap++[.cells e cs]) hE (Gh.box_le (zgm h.heap)) (h.kept.trans (.of_below (M:=fun _=>False) hbl) (fun _ h=>h) (fun _ h=>h.elim)) h.fo (fun _ h=>h) (fun p κ hp=>by
  simp only[Gh.box]at hp
  split at hp
  . subst p;exact .inr h.kept.size
  . exact h.lo p κ hp) (fun b hb=>by
  rcases hb with rfl | hb
  . exact .inr (Nat.le_refl _)
  . exact .inl hb) (by simp) (h.heap.alloc T hl hc)
 refine h1.put d ?_
 have hb:(β.box st.heap.length w.heap.size).b st.heap.length=w.heap.size:=by simp[Gh.box]
 have:=V.ref (F:=F) (w:=w.alloc (.cells ys T)) (β:=β.box st.heap.length w.heap.size) st.heap.length 0 (.inl rfl)
 rwa [hb]at this
theorem HOk.allocB{hp:List Blk}(h:HOk F w β hp){k:Blk}{ob:Obj}(hnew:BlkOk F (w.alloc ob) (β.box hp.length w.heap.size) hp.length k) :
 HOk F (w.alloc ob) (β.box hp.length w.heap.size) (hp++[k]):=by
 have hE:Ext F F w (w.alloc ob):=⟨by simp,fun b hF hb=>⟨hF,Below.heap_alloc _ _ _ hb⟩⟩
 have hβ:=Gh.box_le (p:=w.heap.size) (zgm h)
 refine h.step hp.length hE hβ (fun p hF=>by have:=h.fb p hF;simp;omega) (fun p κ hp'=>?_) (fun p κ hp' hF=>?_) (fun b hb=>?_) (fun b k hb hk=>zdt hb hk) (fun b k hb hk _=>⟨⟨by simp only[Gh.box];rw[if_neg hb],rfl⟩,fun p s hp'=>?_⟩) (fun k hk=>?_)
 . simp only[Gh.box]at hp'
   split at hp'
   . subst p;simp
   . have:=h.lt p κ hp';simp;omega
 . simp only[Gh.box]at hp'
   split at hp'
   . have:=h.fb _ hF;omega
   . exact h.sep p κ hp' hF
 . rcases hb with rfl | hb
   . simp
   . have:=h.live b hb;simp;omega
 . have:=h.lt p _ hp'
   refine⟨by simp only[Gh.box];rw[if_neg (by omega)];exact hp',Below.heap_alloc _ _ _ this⟩
 . obtain rfl:=zfI hk
   exact hnew
theorem Rel.allocB(h:Rel B F β st a w){k:Blk}{ob:Obj}(hnew:BlkOk F (w.alloc ob) (β.box st.heap.length w.heap.size) st.heap.length k)(d:Option Nat){x:AV}{y:Value}(hx:V F (w.alloc ob) (β.box st.heap.length w.heap.size) x y) :
 Rel B F (β.box st.heap.length w.heap.size) (({ st with heap:=st.heap++[k] }:St).put d x) (a.put d y) (w.alloc ob):=by
 have hE:Ext F F w (w.alloc ob):=⟨by simp,fun b hF hb=>⟨hF,Below.heap_alloc _ _ _ hb⟩⟩
 have hbl:Below w.heap.size w (w.alloc ob):=(Below.refl _ _).alloc (Nat.le_refl _) _
 have h1:=h.heapTo (hp:=st.heap++[k]) hE (Gh.box_le (zgm h.heap)) (h.kept.trans (.of_below (M:=fun _=>False) hbl) (fun _ h=>h) (fun _ h=>h.elim)) h.fo (fun _ h=>h) (fun p κ hp=>by
  simp only[Gh.box]at hp
  split at hp
  . subst p;exact .inr h.kept.size
  . exact h.lo p κ hp) (fun b hb=>by
  rcases hb with rfl | hb
  . exact .inr (Nat.le_refl _)
  . exact .inl hb) (by simp) (h.heap.allocB hnew)
 exact h1.put d hx
theorem zjB{l vs:List Value}{o:Nat}(h:o+vs.length<=l.length)(k:Nat)(d:Value):(l.take o++vs++l.drop (o+vs.length)).getD k d=if o<=k/\k<o+vs.length then vs.getD (k-o) d else l.getD k d:=by
 simp only[List.getD]
 by_cases hr:o<=k/\k<o+vs.length
 . rw[if_pos hr,List.append_assoc,List.getElem?_append_right (by simp;omega),List.getElem?_append_left (by simp;omega)]
   congr 2
   simp;omega
 . rw[if_neg hr]
   congr 1
   by_cases hjo:k<o
   . rw[List.append_assoc,List.getElem?_append_left (by simp;omega),List.getElem?_take,if_pos hjo]
   . rw[List.getElem?_append_right (by simp;omega),List.getElem?_drop]
     simp only[List.length_append,List.length_take]
     congr 1;omega
theorem Rel.write(h:Rel B F β st a w){b p:Nat}{s:Option (Nat × Nat)}(hb:b<st.heap.length)(ho:β.o p=some (b,s)){k':Blk}{w':World}(hos:w'.os=w.os)(htp:w'.tape=w.tape)(hou:w'.output=w.output)(hsz:w'.heap.size=w.heap.size)(hbk : ∀ q,q ≠ p->w'.heap[q]?=w.heap[q]?)
 (hnew:Ext F F w w'->BlkOk F w' β b k'):Rel B F β { st with heap:=st.heap.set b k' } a w':=by
 have hE:Ext F F w w':=⟨by omega,fun q hF hq=>⟨hF,hbk q (fun e=>h.heap.sep p _ ho (e ▸ hF))⟩⟩
 refine h.heapTo hE (.refl _) ⟨hos.trans h.kept.os,htp.trans h.kept.tape,hou.trans h.kept.output,by have:=h.kept.size;omega,fun q hq hn=>?_⟩ h.fo (fun _ h=>h) h.lo (fun _ hb=>.inl hb) (by simp) ?_
 . rw[hbk q (fun e=>?_)]
   . exact h.kept.block q hq hn
   . subst e
     rcases h.lo q _ ho with hm | hm
     . exact hn hm
     . omega
 . refine h.heap.step b hE (.refl _) (fun q hF=>by rw[hsz];exact h.heap.fb q hF) (fun q κ hq=>by rw[hsz];exact h.heap.lt q κ hq) h.heap.sep (fun c hc=>by rw[List.length_set];exact h.heap.live c hc) (fun c k hc' hk=>zak hc' hk)
    (fun c _ hcb _ _=>⟨⟨rfl,rfl⟩,fun q s' hq=>⟨hq,hbk q (fun e=>?_)⟩⟩) (fun k hk=>?_)
   . subst e
     rw[ho]at hq
     simp at hq
     exact hcb hq.1.symm
   . obtain rfl:=zT hk
     exact hnew hE
end
structure Frz(B:Bs)(F:Nat->Prop)(β:Gh)(st:St)(a:Act)(w:World)(F1:Nat->Prop)(β1:Gh)(st1:St):Prop where
 rel:Rel B F1 β1 st1 a w
 sub : ∀ k,F k->F1 k
 le:β.Le β1
 b:β1.b=β.b
 v:β1.v=β.v
 l:β1.l=β.l
 o : ∀ p κ,β1.o p=some κ->β.o p=some κ
 len:st1.heap.length=st.heap.length
 gl:st1.gl=st.gl
 np:st1.np=st.np
 env:st1.env=st.env
 df:st1.df=st.df
 arr : ∀ (c:Nat) (e:TypeId) (t:Ty) (cols:List (Nat × TypeId)) (hole:zbI) (xs:List t.T),st1.heap[c]?=some (Blk.row e t cols hole xs)->st.heap[c]?=some (Blk.row e t cols hole xs)
 cells : ∀ (c:Nat) (e:TypeId) (cs:List AV),st1.heap[c]?=some (Blk.cells e cs)->st.heap[c]?=some (Blk.cells e cs)
 map : ∀ (c:Nat) (k v:Ty) (cols:List (Nat × TypeId)) (es:List (k.T × v.T)),st1.heap[c]?=some (Blk.map k v cols es)->st.heap[c]?=some (Blk.map k v cols es)
 dead : ∀ n,st.heap[n]?=some .dead->st1.heap[n]?=some .dead/\∀ p s,β.o p=some (n,s)->β1.o p=some (n,s)
section
variable {P:Program} {B:Bs} {F:Nat->Prop} {β:Gh} {st:St} {a:Act} {w:World}
theorem Frz.refl(h:Rel B F β st a w):Frz B F β st a w F β st:=⟨h,fun _ h=>h,.refl _,rfl,rfl,rfl,fun _ _ h=>h,rfl,rfl,rfl,rfl,rfl,fun _ _ _ _ _ _ h=>h,fun _ _ _ h=>h,fun _ _ _ _ _ h=>h,fun n hn=>⟨hn,fun _ _ h=>h⟩⟩
theorem Frz.trans{F1 F2:Nat->Prop}{β1 β2:Gh}{st1 st2:St}(h:Frz B F β st a w F1 β1 st1)(k:Frz B F1 β1 st1 a w F2 β2 st2):Frz B F β st a w F2 β2 st2:=
 ⟨k.rel,fun p hp=>k.sub p (h.sub p hp),h.le.trans k.le,k.b.trans h.b,k.v.trans h.v,k.l.trans h.l,fun p κ hp=>h.o p κ (k.o p κ hp),k.len.trans h.len,k.gl.trans h.gl,k.np.trans h.np,k.env.trans h.env,k.df.trans h.df,
 fun c e t cols hole xs hc=>h.arr c e t cols hole xs (k.arr c e t cols hole xs hc),fun c e cs hc=>h.cells c e cs (k.cells c e cs hc),fun c kk v cols es hc=>h.map c kk v cols es (k.map c kk v cols es hc),fun n hn=>⟨(k.dead n (h.dead n hn).1).1,fun p s hp=>(k.dead n (h.dead n hn).1).2 p s ((h.dead n hn).2 p s hp)⟩⟩
theorem Frz.al{F1:Nat->Prop}{β1:Gh}{st1:St}(h:Frz B F β st a w F1 β1 st1):Al st st1:=⟨h.gl,h.np,by rw[h.len];exact Nat.le_refl _⟩
theorem Frz.V{F1:Nat->Prop}{β1:Gh}{st1:St}(h:Frz B F β st a w F1 β1 st1){x:AV}{y:Value}(hv:V F w β x y):V F1 w β1 x y:=hv.mono (zaO h.sub w) h.le
theorem Rel.frz(h:Rel B F β st a w){b:Nat}{k':Blk}{F1:Nat->Prop}(hsub : ∀ p,F p->F1 p)(hF1 : ∀ p,F1 p->F p ∨ ∃ s,β.o p=some (b,s))(hb:b<st.heap.length)
 (hnew:BlkOk F1 w (β.free b) b k') (hk1 : ∀ e t cols hole xs,k' ≠ .row e t cols hole xs) (hk2 : ∀ e cs,k' ≠ .cells e cs) (hnd:st.heap[b]? ≠ some .dead) (hk3 : ∀ k v cols es,k' ≠ .map k v cols es:=by intro _ _ _ _ e;cases e):Frz B F β st a w F1 (β.free b) { st with heap:=st.heap.set b k' }:=by
 refine⟨?_,hsub,Gh.free_le β b,rfl,rfl,rfl,fun p κ hp=>(free_o.1 hp).1,by simp,rfl,rfl,rfl,rfl,fun c e t cols hole xs hc=>?_,fun c e cs hc=>?_,fun c kk v cc es hc=>?_,fun n hn=>?_⟩
 . refine h.heapTo (zaO hsub w) (Gh.free_le β b) h.kept (fun p hp=>?_) hsub (fun p κ hp=>h.lo p κ (free_o.1 hp).1) (fun _ hb=>.inl hb) (by simp) ?_
   . rcases hF1 p hp with hp | ⟨s,hp⟩
     . exact h.fo p hp
     . exact .inr (h.lo p _ hp)
   . refine h.heap.step b (zaO hsub w) (Gh.free_le β b) (fun p hp=>?_) (fun p κ hp=>h.heap.lt p κ (free_o.1 hp).1) (fun p κ hp hF=>?_) (fun c hc=>by rw[List.length_set];exact h.heap.live c hc) (fun c k hc hk=>zak hc hk)
      (fun c _ hcb _ _=>⟨⟨rfl,rfl⟩,fun p s hp=>⟨free_o.2 ⟨hp,hcb⟩,rfl⟩⟩) (fun k hk=>?_)
     . rcases hF1 p hp with hp | ⟨s,hp⟩
       . exact h.heap.fb p hp
       . exact h.heap.lt p _ hp
     . obtain ⟨h1,h2⟩:=free_o.1 hp
       rcases hF1 p hF with hF | ⟨s,hF⟩
       . exact h.heap.sep p κ h1 hF
       . rw[h1]at hF;simp at hF;subst hF;exact h2 rfl
     . obtain rfl:=zT hk
       exact hnew
 . by_cases hcb:c=b
   . subst hcb;exact absurd (zT hc).symm (hk1 _ _ _ _ _)
   . exact zak hcb hc
 . by_cases hcb:c=b
   . subst hcb;exact absurd (zT hc).symm (hk2 _ _)
   . exact zak hcb hc
 . by_cases hcb:c=b
   . subst hcb;exact absurd (zT hc).symm (hk3 _ _ _ _)
   . exact zak hcb hc
 . have hne:n ≠ b:=fun e=>hnd (e ▸ hn)
   exact⟨by rw[List.getElem?_set,if_neg (fun e=>hne e.symm)];exact hn,fun p s hp=>free_o.2 ⟨hp,hne⟩⟩
theorem zFl{F':Nat->Prop}{k v:Ty}{cols:List (Nat × TypeId)}{es:List (k.T × v.T)}{b:Nat}(h:BlkOk F w β b (.map k v cols es))(hF : ∀ q,F q->F' q)(ho : ∀ q s,β.o q=some (b,s)->F' q):D F' w (.mp k v es) (.map (some (β.b b))):=by
 obtain ⟨Es,clock,h1,h2,h3,h4,h5⟩:=h
 exact .mp k v es _ Es clock (ho _ _ h3) (Array.getElem?_eq_some_iff.1 h1).1 h1 h2 (fun i hi=>(h4 i hi).wide hF) (fun i hi=>(h5 i hi).whole hF ho)
theorem zdg(h:Rel B F β st a w){x y:AV}{st1:St}(hs:st.frz1 x=some (y,st1)) : ∃ F1 β1,Frz B F β st a w F1 β1 st1/\∀ v,V F w β x v->V F1 w β1 y v:=by
 unfold St.frz1 at hs
 split at hs
 . rename_i b
   split at hs
   . rename_i e t cols xs hb
     simp at hs;obtain ⟨rfl,rfl⟩:=hs
     have hk:=h.heap.blk b _ hb
     have hlt:=(List.getElem?_eq_some_iff.1 hb).1
     let F1:Nat->Prop:=fun p=>F p ∨ ∃ s,β.o p=some (b,s)
     have hd:D F1 w (.sl t xs) (β.v b):=zzr hk (fun k hk=>.inl hk) (fun p s hp=>.inr ⟨s,hp⟩)
     refine⟨F1,β.free b,h.frz (fun p hp=>.inl hp) (fun p hp=>hp) hlt hd (fun _ _ _ _ _ e=>by cases e) (fun _ _ e=>by cases e) (by rw[hb];intro e;cases e),fun v hv=>?_⟩
     obtain ⟨_,rfl,_⟩:=zdw hv
     exact hd.ofD
   . rename_i t xs hb
     simp at hs;obtain ⟨rfl,rfl⟩:=hs
     refine⟨F,β,.refl h,fun v hv=>?_⟩
     obtain ⟨_,rfl,_⟩:=zdw hv
     exact(show D F w (.sl t xs) (β.v b)from h.heap.blk b _ hb).ofD
   . cases hs
 . rename_i b
   split at hs
   . rename_i k v cols es hb
     simp at hs;obtain ⟨rfl,rfl⟩:=hs
     have hk:=h.heap.blk b _ hb
     have hlt:=(List.getElem?_eq_some_iff.1 hb).1
     let F1:Nat->Prop:=fun p=>F p ∨ ∃ s,β.o p=some (b,s)
     have hd:D F1 w (.mp k v es) (.map (some (β.b b))):=zFl hk (fun k hk=>.inl hk) (fun p s hp=>.inr ⟨s,hp⟩)
     refine⟨F1,β.free b,h.frz (fun p hp=>.inl hp) (fun p hp=>hp) hlt hd (fun _ _ _ _ _ e=>by cases e) (fun _ _ e=>by cases e) (by rw[hb];intro e;cases e),fun v hv=>?_⟩
     obtain ⟨_,rfl⟩:=ztM hv
     exact hd.ofD
   . rename_i k v es hb
     simp at hs;obtain ⟨rfl,rfl⟩:=hs
     refine⟨F,β,.refl h,fun u hv=>?_⟩
     obtain ⟨_,rfl⟩:=ztM hv
     exact(show D F w (.mp k v es) (.map (some (β.b b)))from h.heap.blk b _ hb).ofD
   . cases hs
 . cases hs
 . cases hs
 . simp at hs;obtain ⟨rfl,rfl⟩:=hs
   exact⟨F,β,.refl h,fun v hv=>hv⟩
theorem zer{f:St->AV->Option (AV × St)}{R:(Nat->Prop)->Gh->AV->Value->Prop}(hmono : ∀ {F β st F1 β1 st1 x y},Frz B F β st a w F1 β1 st1->R F β x y->R F1 β1 x y)
 (hf : ∀ {F β st x y st1},Rel B F β st a w->f st x=some (y,st1)->∃ F1 β1,Frz B F β st a w F1 β1 st1/\∀ v,V F w β x v->R F1 β1 y v) :
 ∀ {l l':List AV} {F:Nat->Prop} {β:Gh} {st st1:St},Rel B F β st a w->ziX f st l=some (l',st1)->∃ F1 β1,Frz B F β st a w F1 β1 st1/\l'.length=l.length/\
  ∀ Y:Nat->Value,(∀ j,j<l.length->V F w β (l.getD j .undef) (Y j))->∀ j,j<l.length->R F1 β1 (l'.getD j .undef) (Y j)
 | [],l',F,β,st,st1,h,hs=>by
  simp[ziX]at hs
  obtain ⟨rfl,rfl⟩:=hs
  exact⟨F,β,.refl h,rfl,fun _ _ j hj=>by simp at hj⟩
 | c :: cs,l',F,β,st,st2,h,hs=>by
  simp only[ziX]at hs
  split at hs
  . rename_i y st1 hy
    split at hs
    . rename_i ys st2' hys
      simp at hs;obtain ⟨rfl,rfl⟩:=hs
      obtain ⟨F1,β1,z1,d1⟩:=hf h hy
      obtain ⟨F2,β2,z2,l2,d2⟩:=zer (R:=R) hmono hf z1.rel hys
      refine⟨F2,β2,z1.trans z2,by simp[l2],fun Y hY j hj=>?_⟩
      cases j with
      | zero=>simpa using hmono z2 (d1 _ (hY 0 (by simp)))
      | succ j=>
       have:=d2 (fun j=>Y (j+1)) (fun j hj=>z1.V (by simpa using hY (j+1) (by simpa using hj))) j (by simpa using hj)
       simpa using this
    . cases hs
  . cases hs
theorem zxL(h:Rel B F β st a w){x y:AV}{st1:St}(hs:st.frz x=some (y,st1)) : ∃ F1 β1,Frz B F β st a w F1 β1 st1/\∀ v,V F w β x v->V F1 w β1 y v:=by
 unfold St.frz at hs
 split at hs
 . split at hs
   . rename_i cs _ ys st1' hy
     simp at hs;obtain ⟨rfl,rfl⟩:=hs
     obtain ⟨F1,β1,z1,l1,d1⟩:=zer (f:=St.frz1) (R:=fun F β x y=>V F w β x y) (fun z hv=>z.V hv) (fun h hs=>zdg h hs) h hy
     refine⟨F1,β1,z1,fun v hv=>?_⟩
     obtain ⟨zs,rfl,hl,hc⟩:=ziy hv
     exact .agg _ _ (by omega) fun j hj=>d1 (fun j=>zs.getD j undef) hc j (by omega)
   . cases hs
 . exact zdg h hs
theorem zn2(h:Rel B F β st a w){l l':List AV}{st1:St}(hs:st.frzArgs l=some (l',st1)) : ∃ F1 β1,Frz B F β st a w F1 β1 st1/\l'.length=l.length/\
 ∀ Y:Nat->Value,(∀ j,j<l.length->V F w β (l.getD j .undef) (Y j))->∀ j,j<l.length->V F1 w β1 (l'.getD j .undef) (Y j):=
 zer (R:=fun F β x y=>V F w β x y) (fun z hv=>z.V hv) (fun h hs=>zxL h hs) h hs
theorem zdh : ∀ (n:Nat) {F:Nat->Prop} {β:Gh} {st:St} {x y:AV} {st1:St},Rel B F β st a w->St.frzD n st x=some (y,st1)->∃ F1 β1,Frz B F β st a w F1 β1 st1/\∀ v,V F w β x v->D F1 w y v
 | 0,F,β,st,x,y,st1,h,hs=>by simp[St.frzD]at hs
 | n + 1, F, β,st,x,y,st1,h,hs=>by
  have lst : ∀ {F β st l l' st1},Rel B F β st a w->ziX (St.frzD n) st l=some (l',st1)->∃ F1 β1,Frz B F β st a w F1 β1 st1/\l'.length=l.length/\
   ∀ Y:Nat->Value,(∀ j,j<l.length->V F w β (l.getD j .undef) (Y j))->∀ j,j<l.length->D F1 w (l'.getD j .undef) (Y j):=fun h hs=>
   zer (R:=fun F _ x y=>D F w x y) (fun z hv=>hv.wide z.sub) (fun h hs=>zdh n h hs) h hs
  have same : ∀ z:AV,zc7 z->∃ F1 β1,Frz B F β st a w F1 β1 st/\∀ v,V F w β z v->D F1 w z v:=fun z hp=>⟨F,β,.refl h,fun v hv=>hv.toD hp⟩
  simp only[St.frzD]at hs
  split at hs
  . rename_i b
    obtain ⟨F1,β1,z1,d1⟩:=zdg h hs
    refine⟨F1,β1,z1,fun v hv=>(d1 v hv).toD ?_⟩
    unfold St.frz1 at hs
    split at hs
    . split at hs
      . simp at hs;rw[← hs.1];exact .sl _ _
      . simp at hs;rw[← hs.1];exact .sl _ _
      . cases hs
    . rename_i e;cases e
    . cases hs
    . cases hs
    . rename_i hne _ _ _;exact absurd rfl (hne b)
  . rename_i b
    obtain ⟨F1,β1,z1,d1⟩:=zdg h hs
    refine⟨F1,β1,z1,fun v hv=>(d1 v hv).toD ?_⟩
    unfold St.frz1 at hs
    split at hs
    . rename_i e;cases e
    . split at hs
      . simp at hs;rw[← hs.1];exact .mp _ _ _
      . simp at hs;rw[← hs.1];exact .mp _ _ _
      . cases hs
    . cases hs
    . cases hs
    . rename_i _ hne _ _;exact absurd rfl (hne b)
  . simp at hs;obtain ⟨rfl,rfl⟩:=hs;exact same _ (.mp _ _ _)
  . rename_i b
    split at hs
    . rename_i e cs hb
      split at hs
      . rename_i t cs' st1' ht hcs
        split at hs
        . rename_i x' e2 cs2 hd hb2
          simp at hs;obtain ⟨rfl,rfl⟩:=hs
          obtain ⟨F1,β1,z1,l1,d1⟩:=lst h hcs
          have hb1:=z1.cells _ _ _ hb2
          rw[hb]at hb1
          obtain ⟨rfl,rfl⟩:e=e2/\cs=cs2:=by simpa using hb1
          obtain ⟨ys,T,g1,g2,g3,g4⟩:=h.heap.blk b _ hb
          obtain ⟨ys',T',k1,k2,k3,k4⟩:=z1.rel.heap.blk b _ hb2
          have hys:ys'=ys:=by rw[z1.b,g1]at k1;cases k1;rfl
          subst hys
          obtain ⟨e1,e3⟩:=zbm (F:=F1) (w:=w) (β:=Gh.nil) hd
          have hlt:=(List.getElem?_eq_some_iff.1 hb2).1
          let F2:Nat->Prop:=fun p=>F1 p ∨ β1.o p=some (b,none)
          have hF1 : ∀ p,F1 p->F2 p:=fun p hp=>.inl hp
          have hdd:D F2 w (.op t (some x')) (.pointer (some ⟨β1.b b,0,none⟩)):=by
           refine .op t x' (β1.b b) 0 (fun j=>ys'.getD j undef) (.inr k3) (Array.getElem?_eq_some_iff.1 k1).1 (fun j hj=>?_) (fun j hj=>?_)
           . have hj':j<ys'.size:=by omega
             rw[Nat.zero_add,cell_of_row w (β1.b b) j ys' T' (0,0) k1]
             simp[Array.getD,hj']
           . exact(e3 j _ (by omega) (d1 (fun j=>ys'.getD j undef) g4 j (by omega))).wide hF1
          have hz2:=z1.rel.frz (k':=.rob t x') (F1:=F2) hF1 (fun p hp=>hp.imp id fun hp=>⟨_,hp⟩) hlt hdd (fun _ _ _ _ _ e=>by cases e) (fun _ _ e=>by cases e) (by rw[hb2];intro e;cases e)
          refine⟨F2,_,z1.trans hz2,fun v hv=>?_⟩
          obtain ⟨_,rfl⟩:=zhC hv
          rw[← z1.b]
          exact hdd
        . cases hs
      . cases hs
    . rename_i t y' hb
      simp at hs;obtain ⟨rfl,rfl⟩:=hs
      refine⟨F,β,.refl h,fun v hv=>?_⟩
      obtain ⟨_,rfl⟩:=zhC hv
      exact h.heap.blk b _ hb
    . cases hs
  . rename_i cs
    split at hs
    . rename_i cs' st1' hcs
      simp at hs;obtain ⟨rfl,rfl⟩:=hs
      obtain ⟨F1,β1,z1,l1,d1⟩:=lst h hcs
      refine⟨F1,β1,z1,fun v hv=>?_⟩
      obtain ⟨zs,rfl,hl,hc⟩:=ziy hv
      exact .agg _ _ (by omega) fun j hj=>d1 (fun j=>zs.getD j undef) hc j (by omega)
    . cases hs
  . rename_i f fa fc
    split at hs
    . rename_i a' st1' ha
      split at hs
      . rename_i c' st2' hc
        simp at hs;obtain ⟨rfl,rfl⟩:=hs
        obtain ⟨F1,β1,z1,l1,d1⟩:=lst h ha
        obtain ⟨F2,β2,z2,l2,d2⟩:=lst z1.rel hc
        refine⟨F2,β2,z1.trans z2,fun v hv=>?_⟩
        cases hv with
        | fn _ _ _ ya yc hla hlc hva hvc=>
         exact .fn _ _ _ ya yc (by omega) (by omega) (fun j hj=>(d1 (fun j=>ya.getD j undef) hva j (by omega)).wide z2.sub) (fun j hj=>d2 (fun j=>yc.getD j undef) (fun j hj=>z1.V (hvc j hj)) j (by omega))
      . cases hs
    . cases hs
  . simp at hs;obtain ⟨rfl,rfl⟩:=hs;exact same _ (.v _)
  . simp at hs;obtain ⟨rfl,rfl⟩:=hs;exact same _ (.sl _ _)
  . simp at hs;obtain ⟨rfl,rfl⟩:=hs;exact same _ (.op _ _)
  . simp at hs;obtain ⟨rfl,rfl⟩:=hs;exact same _ (.el _ _ _ _)
  . simp at hs;obtain ⟨rfl,rfl⟩:=hs;exact same _ (.clo _)
  . simp at hs;obtain ⟨rfl,rfl⟩:=hs;exact same _ .any
  . cases hs
theorem zme(h:Rel B F β st a w){l l':List AV}{st1:St}(hs:st.frzs l=some (l',st1)) : ∃ F1 β1,Frz B F β st a w F1 β1 st1/\l'.length=l.length/\
 ∀ Y:Nat->Value,(∀ j,j<l.length->V F w β (l.getD j .undef) (Y j))->∀ j,j<l.length->D F1 w (l'.getD j .undef) (Y j):=
 zer (R:=fun F _ x y=>D F w x y) (fun z hv=>hv.wide z.sub) (fun h hs=>zdh 9 h hs) h hs
theorem Rel.store(h:Rel B F β st a w){b off:Nat}{e:TypeId}{cs xs cs':List AV}{vs:List Value}(hb:st.heap[b]?=some (.cells e cs))(hw:wr cs off xs=some cs')(hne:xs ≠ [])(hl:vs.length=xs.length)
 (hc : ∀ j,j<xs.length->V F w β (xs.getD j .undef) (vs.getD j undef)) (h1 : ∀ v ∈ vs,v.oneCell'=true) (P:Program) :
 ∃ w',(storeCells ⟨β.b b,off,none⟩ vs).run P w=.ok () w'/\Rel B F β { st with heap:=st.heap.set b (.cells e cs') } a w':=by
 have hlt:b<st.heap.length:=(List.getElem?_eq_some_iff.1 hb).1
 obtain ⟨ys,T,g1,g2,g4,g3⟩:=h.heap.blk b _ hb
 obtain ⟨k1,k2,k3⟩:=zd5 hw
 have k2:off+xs.length<=cs.length:=by rcases k2 with k2 | k2;exact absurd k2 hne;exact k2
 have hrun:=run_storeCells_at P (β.b b) off T vs 0 ys w g1 (by omega) h1
 simp only[Nat.add_zero]at hrun
 refine⟨_,hrun,?_⟩
 generalize hw':w.setRow (β.b b) _=w'
 have hbk : ∀ k,k ≠ β.b b->w'.heap[k]?=w.heap[k]?:=fun k hk=>by rw[← hw'];exact setRow_other w _ k _ hk
 have hsz:w'.heap.size=w.heap.size:=by rw[← hw'];simp
 have hrow:w'.heap[β.b b]?=some (.cells (ys.toList.take off++vs++ys.toList.drop (off+vs.length)).toArray T (0,0)):=by rw[← hw'];exact setRow_heap w _ ys _ T _ g1
 refine h.write hlt g4 (by rw[← hw'];rfl) (by rw[← hw'];rfl) (by rw[← hw'];rfl) hsz hbk fun hE=>?_
 refine⟨_,T,hrow,by simp;omega,g4,fun j hj=>?_⟩
 have hv:V F w β (cs'.getD j .undef) ((ys.toList.take off++vs++ys.toList.drop (off+vs.length)).toArray.getD j undef):=by
  rw[k3 j,Array.getD_eq_getD_getElem?,List.getElem?_toArray,← List.getD_eq_getElem?_getD,zjB (by simp;omega)]
  by_cases hr:off<=j/\j<off+xs.length
  . rw[if_pos hr,if_pos (by omega)]
    exact hc (j-off) (by omega)
  . rw[if_neg hr,if_neg (by omega)]
    have:=g3 j (by omega)
    have e:ys.toList.getD j undef=ys.getD j undef:=by rw[List.getD_eq_getElem?_getD,Array.getElem?_toList,Array.getD_eq_getD_getElem?]
    rw[e]
    exact this
 exact hv.mono hE (.refl _)
theorem Rel.kill(h:Rel B F β st a w)(b:Nat):Rel B F β { st with heap:=st.heap.set b .dead } a w:=by
 refine h.heapTo (zaO (fun _ h=>h) w) (.refl _) h.kept h.fo (fun _ h=>h) h.lo (fun _ hb=>.inl hb) (by simp) (h.heap.step b (zaO (fun _ h=>h) w) (.refl _) h.heap.fb h.heap.lt h.heap.sep (fun c hc=>by rw[List.length_set];exact h.heap.live c hc) (fun c k hc hk=>zak hc hk)
  (fun c _ _ _ _=>⟨⟨rfl,rfl⟩,fun p s hp=>⟨hp,rfl⟩⟩) fun k hk=>?_)
 obtain rfl:=zT hk
 trivial
theorem zdq{t:TypeId}{z:List AV}(h:zdp P t=some z) : ∃ i zv,P.info? t=some i/\i.zero=some zv/\z=zv.cells.toList.map .v:=by
 unfold zdp at h
 split at h
 . rename_i i hi
   split at h
   . rename_i zv hz
     simp at h;exact⟨i,zv,hi,hz,h.symm⟩
   . cases h
 . cases h
theorem zh5{w:World}{base e size:Nat}{v:Value}{n:Nat}{xs:List Value}(h:w.ownsRow base e size v n xs) : ∃ A c,v=.slice A n c:=by
 rcases h.2 with ⟨rfl,rfl⟩ | ⟨g,cap,cur,rfl,_⟩
 . exact⟨_,_,rfl⟩
 . exact⟨_,_,rfl⟩
theorem zD1{w:World}{base e size:Nat}{v:Value}{n:Nat}{xs:List Value}(h:w.ownsRow base e size v n xs){p:Nat}(hp:v.ownBlock=some p):base<=p/\p<w.heap.size:=by
 rcases h.2 with ⟨rfl,rfl⟩ | ⟨g,cap,cur,rfl,hb,hh,_⟩
 . cases hp
 . have:g=p:=by simpa [Value.ownBlock]using hp
   subst this
   exact⟨hb,(Array.getElem?_eq_some_iff.1 hh).1⟩
def SubT(F:Nat->Prop)(w:World)(T:Nat->Option (Nat × Nat))(i j:Nat)(e:TypeId)(x:AV)(v:Value):Prop:=
 ∃ (t:Ty) (ys:List t.T) (Vs:List Value),x=.sl t ys/\w.ownsRow 0 e t.sz v ys.length Vs/\ys.length<=140737488355328/\(∀ p,v.ownBlock=some p->T p=some (i,j))/\
  ∀ k m,k<ys.length->m<t.sz->D F w ((t.enc (nth ys k)).getD m .undef) (Vs.getD (k*t.sz+m) undef)
def CellT(F:Nat->Prop)(w:World)(T:Nat->Option (Nat × Nat))(cols:List (Nat × TypeId))(i j:Nat)(x:AV)(v:Value):Prop:=
 match zaA cols j with
 | none=>D F w x v
 | some e=>SubT F w T i j e x v
theorem Rel.pushRowT (h:Rel B F β st a w) {e:TypeId} {ty:Ty} {cols:List (Nat × TypeId)} {xs:List ty.T} {Vs:List Value} {v:Value} {w':World} {row:Option Nat} (T:Nat->Option (Nat × Nat))
 (hown:w'.ownsRow 0 e ty.sz v xs.length Vs) (hgrow:w.grownBy w' row) (hlen:xs.length<=140737488355328)
 (hrow : ∀ p,row=some p->(B.M p ∨ B.w.heap.size<=p)/\¬ F p/\∀ b k s,st.heap[b]?=some k->β.o p=some (b,s)->k=.dead)
 (hat : ∀ p,v.ownBlock=some p->row=some p ∨ w.heap.size<=p)
 (hT : ∀ p s,T p=some s->row ≠ some p/\∃ b s',β.o p=some (b,s')/\∀ k,st.heap[b]?=some k->k=.dead)
 (hD : ∀ i j,i<xs.length->j<ty.sz->CellT F w T cols i j ((ty.enc (nth xs i)).getD j .undef) (Vs.getD (i*ty.sz+j) undef)) (d:Option Nat) :
 ∃ β':Gh,Rel B F β' (st.push (.row e ty cols [] xs) d) (a.put d v) w'/\β.Le β'/\V F w' β' (.own st.heap.length) v:=by
 have hE:Ext F F w w':=⟨hgrow.size,fun b hF hb=>⟨hF,hgrow.block b hb (fun e=>(hrow b e.symm).2.1 hF)⟩⟩
 have hβ:β.Le (β.row st.heap.length v T):=Gh.row_le (zgm h.heap)
 have hn:(β.row st.heap.length v T).v st.heap.length=v:=by simp[Gh.row]
 have hTv : ∀ p s,T p=some s->v.ownBlock ≠ some p:=fun p s hp hv=>by
  obtain ⟨h1,b,s',h2,_⟩:=hT p s hp
  rcases hat p hv with hr | hr
  . exact h1 hr
  . have:=h.heap.lt p _ h2;omega
 have hnew : ∀ p κ,(β.row st.heap.length v T).o p=some κ->(v.ownBlock=some p/\κ=(st.heap.length,none)) ∨ (v.ownBlock ≠ some p/\∃ κ',β.o p=some κ'):=fun p κ hp=>by
  simp only[Gh.row]at hp
  split at hp
  . rename_i hv;simp at hp;exact .inl ⟨hv,hp.symm⟩
  . rename_i hv
    split at hp
    . rename_i s hs
      obtain ⟨_,b,s',h2,_⟩:=hT p s hs
      exact .inr ⟨hv,_,h2⟩
    . exact .inr ⟨hv,_,hp⟩
 have hvp : ∀ p,v.ownBlock=some p->(B.M p ∨ B.w.heap.size<=p)/\¬ F p:=fun p hv=>by
  rcases hat p hv with hr | hr
  . exact⟨(hrow p hr).1,(hrow p hr).2.1⟩
  . exact⟨.inr (Nat.le_trans h.kept.size hr),fun hF=>by have:=h.heap.fb p hF;omega⟩
 have hR := h.heapTo (hp:=st.heap++[.row e ty cols [] xs]) hE hβ ⟨hgrow.os.trans h.kept.os,hgrow.tape.trans h.kept.tape,hgrow.output.trans h.kept.output,Nat.le_trans h.kept.size hgrow.size,fun p hp hn=>by
  rw[hgrow.block p (Nat.lt_of_lt_of_le hp h.kept.size) (fun e=>by
   rcases (hrow p e.symm).1 with hm | hm
   . exact hn hm
   . omega)]
  exact h.kept.block p hp hn⟩ h.fo (fun _ h=>h) (fun p κ hp=>by
  rcases hnew p κ hp with ⟨hv,_⟩ | ⟨_,κ',hp⟩
  . exact(hvp p hv).1
  . exact h.lo p κ' hp) (fun b hb=>by
  rcases hb with rfl | hb
  . exact .inr (Nat.le_refl _)
  . exact .inl hb) (by simp) (h.heap.step st.heap.length hE hβ (fun p hF=>Nat.lt_of_lt_of_le (h.heap.fb p hF) hgrow.size) (fun p κ hp=>by
    rcases hnew p κ hp with ⟨hv,_⟩ | ⟨_,κ',hp⟩
    . exact(zD1 hown hv).2
    . exact Nat.lt_of_lt_of_le (h.heap.lt p κ' hp) hgrow.size) (fun p κ hp=>by
    rcases hnew p κ hp with ⟨hv,_⟩ | ⟨_,κ',hp⟩
    . exact(hvp p hv).2
    . exact h.heap.sep p κ' hp) (fun b hb=>by
      rcases hb with rfl | hb
      . simp
      . have:=h.heap.live b hb;simp;omega) (fun b k hb hk=>zdt hb hk) (fun b k hb hk hd=>?_) (fun k hk=>by
      obtain rfl:=zfI hk
      refine⟨Vs,by rw[hn];exact hown,hlen,fun p hp=>?_,fun i j hi hj=>?_⟩
      . rw[hn]at hp
        simp[Gh.row,hp]
      . have hc:=hD i j hi hj
        unfold CellT at hc
        unfold CellOk
        cases hcc:zaA cols j with
        | none=>rw[hcc]at hc;exact hc.mono hE
        | some e'=>
         rw[hcc]at hc
         obtain ⟨t,ys,Ws,g1,g2,g3,g4,g5⟩:=hc
         refine⟨.nil,.inr ⟨t,ys,Ws,g1,zhg g2 fun p hv=>?_,g3,fun p hv=>?_,fun k m hk hm=>(g5 k m hk hm).mono hE⟩⟩
         . obtain ⟨h1,b,s',h2,_⟩:=hT p _ (g4 p hv)
           exact hgrow.block p (h.heap.lt p _ h2) fun e=>h1 e.symm
         . have:=hTv p _ (g4 p hv)
           simp only[Gh.row,if_neg this,g4 p hv]))
 . have hv:V F w' (β.row st.heap.length v T) (.own st.heap.length) v:=by
    obtain ⟨A,c,hA⟩:=zh5 hown
    have:=V.own (F:=F) (w:=w') (β:=β.row st.heap.length v T) st.heap.length (.inl rfl) A _ c (hn.trans hA)
    rwa [hn]at this
   exact⟨_,hR.put d hv,hβ,hv⟩
 . refine⟨⟨rfl,by simp only[Gh.row];rw[if_neg hb]⟩,fun p s hp=>?_⟩
   have hlt:=h.heap.lt p _ hp
   have hnr:row ≠ some p:=fun e=>hd ((hrow p e).2.2 b k s hk hp)
   have hnv:v.ownBlock ≠ some p:=fun e=>by
    rcases hat p e with hr | hr
    . exact hnr hr
    . omega
   have hnT:T p=none:=by
    cases hq:T p with
    | none=>rfl
    | some s2=>
     obtain ⟨_,b2,s',h2,h3⟩:=hT p s2 hq
     rw[hp]at h2
     simp at h2
     obtain ⟨rfl,_⟩:=h2
     exact absurd (h3 k hk) hd
   exact⟨by simp only[Gh.row];rw[if_neg hnv,hnT];exact hp,hgrow.block p hlt fun e=>hnr e.symm⟩
def GivC(F:Nat->Prop)(w:World)(β:Gh)(st:St)(cols:List (Nat × TypeId))(j:Nat)(y:AV)(v:Value):Prop:=
 match zaA cols j with
 | none=>D F w y v
 | some e=>(zbc y=true/\v=.slice none 0 0) ∨ ∃ (t:Ty) (ys:List t.T) (Vs:List Value),y=.sl t ys/\w.ownsRow 0 e t.sz v ys.length Vs/\ys.length<=140737488355328/\(∀ p,v.ownBlock=some p->∃ n,β.o p=some (n,none)/\st.heap[n]?=some .dead)/\
  ∀ k m,k<ys.length->m<t.sz->D F w ((t.enc (nth ys k)).getD m .undef) (Vs.getD (k*t.sz+m) undef)
theorem GivC.frz{F1:Nat->Prop}{β1:Gh}{st1:St}(z:Frz B F β st a w F1 β1 st1){cols:List (Nat × TypeId)}{j:Nat}{y:AV}{v:Value}(h:GivC F w β st cols j y v):GivC F1 w β1 st1 cols j y v:=by
 unfold GivC at h ⊢
 split at h
 . exact h.wide z.sub
 . rcases h with h | ⟨t,ys,Vs,h1,h2,h3,h4,h5⟩
   . exact .inl h
   . refine .inr ⟨t,ys,Vs,h1,h2,h3,fun p hp=>?_,fun k m hk hm=>(h5 k m hk hm).wide z.sub⟩
     obtain ⟨n,q1,q2⟩:=h4 p hp
     exact⟨n,(z.dead n q2).2 p _ q1,(z.dead n q2).1⟩
theorem Frz.kill(h:Rel B F β st a w)(b:Nat):Frz B F β st a w F β { st with heap:=st.heap.set b .dead }:=by
 refine⟨h.kill b,fun _ h=>h,.refl _,rfl,rfl,rfl,fun _ _ h=>h,by simp,rfl,rfl,rfl,rfl,fun c e t cols hole xs hc=>?_,fun c e cs hc=>?_,fun c kk v cc es hc=>?_,fun n hn=>⟨?_,fun _ _ h=>h⟩⟩
 . by_cases hcb:c=b
   . subst hcb;have:=zT hc;cases this
   . exact zak hcb hc
 . by_cases hcb:c=b
   . subst hcb;have:=zT hc;cases this
   . exact zak hcb hc
 . by_cases hcb:c=b
   . subst hcb;have:=zT hc;cases this
   . exact zak hcb hc
 . show(st.heap.set b .dead)[n]?=some .dead
   rw[List.getElem?_set]
   split
   . rename_i e;subst e
     rw[if_pos (List.getElem?_eq_some_iff.1 hn).1]
   . exact hn
theorem zr3 (h:Rel B F β st a w) {cols:List (Nat × TypeId)} {j:Nat} {x y:AV} {st1:St} (hs:st.give1 cols j x=some (y,st1)) : ∃ F1 β1,Frz B F β st a w F1 β1 st1/\∀ v,V F w β x v->GivC F1 w β1 st1 cols j y v/\
 (zaA cols j ≠ none->∀ p,v.ownBlock=some p->∃ n,β.o p=some (n,none)/\st.heap[n]? ≠ some .dead/\β1.o p=some (n,none)/\st1.heap[n]?=some .dead):=by
 unfold St.give1 at hs
 split at hs
 . rename_i e' hc
   split at hs
   . rename_i n
     split at hs
     . rename_i e2 t' zs hn
       split at hs
       . rename_i he
         simp at hs;obtain ⟨rfl,rfl⟩:=hs
         have he:=Nat.eq_of_beq_eq_true he
         subst he
         obtain ⟨Vs,g1,g2,g3,g4⟩:=h.heap.blk n _ hn
         have hlt:=(List.getElem?_eq_some_iff.1 hn).1
         have hd:(st.heap.set n .dead)[n]?=some .dead:=by rw[List.getElem?_set,if_pos rfl,if_pos hlt]
         refine⟨F,β,.kill h n,fun v hv=>?_⟩
         obtain ⟨_,rfl,_⟩:=zdw hv
         refine⟨?_,fun _ p hp=>⟨n,g3 p hp,(by rw[hn];intro e;cases e),g3 p hp,hd⟩⟩
         unfold GivC
         rw[hc]
         exact .inr ⟨t',zs,Vs,rfl,g1,g2,fun p hp=>⟨n,g3 p hp,hd⟩,fun k m hk hm=>(g4 k m hk hm).toD rfl⟩
       . cases hs
     . cases hs
   . rename_i x' _
     split at hs
     . rename_i hnil
       simp at hs;obtain ⟨rfl,rfl⟩:=hs
       refine⟨F,β,.refl h,fun v hv=>?_⟩
       have hv0:v=.slice none 0 0:=by
        unfold zbc at hnil
        split at hnil
        . exact V_v hv
        . cases hnil
       subst hv0
       refine⟨?_,fun _ p hp=>by simp[Value.ownBlock]at hp⟩
       unfold GivC
       rw[hc]
       exact .inl ⟨hnil,rfl⟩
     . cases hs
 . rename_i hc
   obtain ⟨F1,β1,z1,d1⟩:=zdh 9 h hs
   refine⟨F1,β1,z1,fun v hv=>⟨?_,fun hne=>absurd hc hne⟩⟩
   unfold GivC
   rw[hc]
   exact d1 v hv
theorem zk0 {cols:List (Nat × TypeId)} {sz:Nat} : ∀ {l l':List AV} {p0:Nat} {F:Nat->Prop} {β:Gh} {st st1:St},Rel B F β st a w->St.gives cols sz p0 l st=some (l',st1)->∃ F1 β1,Frz B F β st a w F1 β1 st1/\l'.length=l.length/\
 ∀ Y:Nat->Value,(∀ q,q<l.length->V F w β (l.getD q .undef) (Y q))->(∀ q,q<l.length->GivC F1 w β1 st1 cols ((p0+q) % sz) (l'.getD q .undef) (Y q))/\
  (∀ q,q<l.length->zaA cols ((p0+q) % sz) ≠ none->∀ p,(Y q).ownBlock=some p->∃ n,β.o p=some (n,none)/\st.heap[n]? ≠ some .dead)/\
  ∀ q q' p,q<l.length->q'<l.length->zaA cols ((p0+q) % sz) ≠ none->zaA cols ((p0+q') % sz) ≠ none->(Y q).ownBlock=some p->(Y q').ownBlock=some p->q=q'
 | [],l',p0,F,β,st,st1,h,hs=>by
  simp[St.gives]at hs
  obtain ⟨rfl,rfl⟩:=hs
  exact⟨F,β,.refl h,rfl,fun Y _=>⟨fun q hq=>by simp at hq,fun q hq=>by simp at hq,fun q q' p hq=>by simp at hq⟩⟩
 | c :: cs,l',p0,F,β,st,st2,h,hs=>by
  simp only[St.gives]at hs
  split at hs
  . rename_i y st1 hy
    split at hs
    . rename_i ys st2' hys
      simp at hs;obtain ⟨rfl,rfl⟩:=hs
      obtain ⟨F1,β1,z1,d1⟩:=zr3 h hy
      obtain ⟨F2,β2,z2,l2,d2⟩:=zk0 z1.rel hys
      refine⟨F2,β2,z1.trans z2,by simp[l2],fun Y hY=>?_⟩
      obtain ⟨a1,a2⟩:=d1 _ (hY 0 (by simp))
      obtain ⟨b1,b2,b3⟩:=d2 (fun q=>Y (q+1)) (fun q hq=>z1.V (by simpa using hY (q+1) (by simpa using hq)))
      have e : ∀ q,(p0+1+q) % sz=(p0+(q+1)) % sz:=fun q=>by rw[Nat.add_assoc,Nat.add_comm 1 q]
      have apart : ∀ q p,q<cs.length->zaA cols ((p0+0) % sz) ≠ none->zaA cols ((p0+(q+1)) % sz) ≠ none->(Y 0).ownBlock=some p->(Y (q+1)).ownBlock=some p->False:=fun q p hq h0 h1 hp hp'=>by
       obtain ⟨n,_,_,k1,k2⟩:=a2 h0 p hp
       obtain ⟨n',k3,k4⟩:=b2 q hq (by rw[e];exact h1) p hp'
       rw[k1]at k3
       simp at k3
       subst k3
       exact k4 k2
      refine⟨fun q hq=>?_,fun q hq hc p hp=>?_,fun q q' p hq hq' hc hc' hp hp'=>?_⟩
      . cases q with
        | zero=>simpa using a1.frz z2
        | succ q=>
         have:=b1 q (by simpa using hq)
         rw[e]at this
         simpa using this
      . cases q with
        | zero=>
         obtain ⟨n,k1,k2,_⟩:=a2 hc p hp
         exact⟨n,k1,k2⟩
        | succ q=>
         obtain ⟨n,k1,k2⟩:=b2 q (by simpa using hq) (by rw[e];exact hc) p hp
         exact⟨n,z1.o p _ k1,fun hd=>k2 (z1.dead n hd).1⟩
      . cases q with
        | zero=>cases q' with
         | zero=>rfl
         | succ q'=>exact(apart q' p (by simpa using hq') hc hc' hp hp').elim
        | succ q=>cases q' with
         | zero=>exact(apart q p (by simpa using hq) hc' hc hp' hp).elim
         | succ q'=>rw[b3 q q' p (by simpa using hq) (by simpa using hq') (by rw[e];exact hc) (by rw[e];exact hc') hp hp']
    . cases hs
  . cases hs
theorem places{cols:List (Nat × TypeId)}{sz N:Nat}{Y:Nat->Value}(h : ∀ q q' p,q<N->q'<N->zaA cols (q % sz) ≠ none->zaA cols (q' % sz) ≠ none->(Y q).ownBlock=some p->(Y q').ownBlock=some p->q=q') :
 ∃ T:Nat->Option (Nat × Nat),(∀ p s,T p=some s->∃ q,q<N/\zaA cols (q % sz) ≠ none/\(Y q).ownBlock=some p)/\∀ q p,q<N->zaA cols (q % sz) ≠ none->(Y q).ownBlock=some p->T p=some (q / sz,q % sz):=by
 classical
 refine⟨fun p=>if hq : ∃ q,q<N/\zaA cols (q % sz) ≠ none/\(Y q).ownBlock=some p then some (hq.choose / sz,hq.choose % sz)else none,fun p s hp=>?_,fun q p h1 h2 h3=>?_⟩
 . by_cases hq : ∃ q,q<N/\zaA cols (q % sz) ≠ none/\(Y q).ownBlock=some p
   . exact hq
   . simp only[dif_neg hq]at hp;cases hp
 . have hq : ∃ q,q<N/\zaA cols (q % sz) ≠ none/\(Y q).ownBlock=some p:=⟨q,h1,h2,h3⟩
   simp only[dif_pos hq]
   have:=h _ q p hq.choose_spec.1 h1 hq.choose_spec.2.1 h2 hq.choose_spec.2.2 h3
   rw[this]
theorem Rel.pushRow(h:Rel B F β st a w){e:TypeId}{ty:Ty}{cols:List (Nat × TypeId)}{xs:List ty.T}{Vs:List Value}{v:Value}{w':World}{row:Option Nat}
 (hown:w'.ownsRow 0 e ty.sz v xs.length Vs) (hgrow:w.grownBy w' row) (hlen:xs.length<=140737488355328)
 (hrow : ∀ p,row=some p->(B.M p ∨ B.w.heap.size<=p)/\¬ F p/\∀ b k s,st.heap[b]?=some k->β.o p=some (b,s)->k=.dead)
 (hat : ∀ p,v.ownBlock=some p->row=some p ∨ w.heap.size<=p)
 (hC : ∀ i j e',i<xs.length->j<ty.sz->zaA cols j=some e'->(∃ t:Ty,(ty.enc (nth xs i)).getD j .undef=.sl t [])/\Vs.getD (i*ty.sz+j) undef=.slice none 0 0)
 (hD : ∀ i j,i<xs.length->j<ty.sz->D F w ((ty.enc (nth xs i)).getD j .undef) (Vs.getD (i*ty.sz+j) undef)) (d:Option Nat) :
 ∃ β':Gh,Rel B F β' (st.push (.row e ty cols [] xs) d) (a.put d v) w'/\β.Le β'/\V F w' β' (.own st.heap.length) v:=by
 refine h.pushRowT (fun _=>none) hown hgrow hlen hrow hat (fun p s hp=>by cases hp) (fun i j hi hj=>?_) d
 unfold CellT
 split
 . exact hD i j hi hj
 . rename_i e' hc
   obtain ⟨⟨t,h1⟩,h2⟩:=hC i j e' hi hj hc
   rw[h1,h2]
   exact⟨t,[],[],rfl,World.ownsRow_nil w _ e' t.sz,by simp,fun p hp=>by simp[Value.ownBlock]at hp,fun k m hk=>by simp at hk⟩
end
end Go.Proofs.YtgajeebphoiphaaGreatDoor
end
