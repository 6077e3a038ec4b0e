import Derived.Test.YtgajeebphoiphaaGreatDoorS9
import Derived.Orders
set_option linter.unusedVariables false
set_option linter.unusedSimpArgs false
noncomputable section
namespace Go.Proofs.YtgajeebphoiphaaGreatDoor
open Go.RowKit
theorem zfc{α β:Type}(c:Bool)(x y:Option α)(k:α->Option β):(cond c x y).bind k=cond c (x.bind k) (y.bind k):=by cases c <;> rfl
theorem zmC{R α β:Type}(o:Option R)(f:R->Option α)(z:Option α)(k:α->Option β):(orB o f z).bind k=orB o (fun x=>(f x).bind k) (z.bind k):=by cases o <;> rfl
theorem zmG{α β:Type}{n:Nat}{k:AV->Option α}{g:α->Option β} : ∀ {cs:List AV} {j:Nat},(zmF n j cs k).bind g=zmF n j cs fun x=>(k x).bind g
 | [],j=>rfl
 | c :: cs,j=>by simp only[zmF,zfc,zmG]
theorem ziI{α:Type}(P:Program)(st:St)(o:Oper)(k:AV->Option α):evT P st o k=(evT P st o some).bind k:=by
 unfold evT
 split <;> (repeat' split) <;> simp[zfc,zmC,zmG]
theorem zj9{R α:Type}{o:Option R}{f g:R->Option α}{z z':Option α}(h : ∀ x,f x=g x)(hz:z=z'):orB o f z=orB o g z':=by rw[funext h,hz]
theorem zkU{α:Type}(G:Gam)(st:St)(f:Cal)(as:List AV)(k:AV->St->Option α):zeW G st f as k=(zeW G st f as fun x s=>some (x,s)).bind fun p=>k p.1 p.2:=by
 unfold zeW evCall1 evCall1.evPass
 (repeat' split) <;> simp only[zmC,Option.bind_none,Option.bind_some] <;> first | rfl | exact zj9 (fun x=>by split <;> rfl) rfl | exact zj9 (fun x=>by split <;> rfl) (zj9 (fun x=>by split <;> rfl) rfl)
theorem zrW{α:Type}(P:Program)(st:St)(o:Oper)(t:TypeId)(b sz i off:Nat)(k:St->Option α):zjY P st o t b sz i off k=(zjY P st o t b sz i off some).bind k:=by
 have tel:evT P st o (fun x=>k (st.put o.dst x))=(evT P st o fun x=>some (st.put o.dst x)).bind k:=by
  rw[ziI P st o fun x=>k (st.put o.dst x),ziI P st o fun x=>some (st.put o.dst x),Option.bind_assoc]
  rfl
 unfold zjY
 (repeat' split) <;> first | exact tel | simp[zfc]
theorem zn0{α:Type}(st:St)(dst:Option Nat)(b sz i off:Nat)(e:TypeId)(ty:Ty)(cols:List (Nat × TypeId))(hole:zbI)(ys:List ty.T)(x0:AV)(xs:List AV)(k:St->Option α) :
 zgj st dst b sz i off e ty cols hole ys x0 xs k=(zgj st dst b sz i off e ty cols hole ys x0 xs some).bind k:=by
 unfold zgj
 (repeat' split) <;> simp[zfc]
theorem zn1{α:Type}(st:St)(dst:Option Nat)(b o0:Nat)(ty:Ty)(m i d:Nat)(e:TypeId)(cs xs:List AV)(k:St->Option α) :
 zgk st dst b o0 ty m i d e cs xs k=(zgk st dst b o0 ty m i d e cs xs some).bind k:=by
 unfold zgk
 (repeat' split) <;> simp
theorem zrU{α:Type}(P:Program)(st:St)(d:Option Nat)(t:TypeId)(x s:AV)(k:St->Option α):zmb P st d t x s k=(zmb P st d t x s some).bind k:=by
 unfold zmb
 (repeat' split) <;> rfl
theorem zqo{α:Type}(P:Program)(st:St)(d:Option Nat)(t:TypeId)(x:AV)(k:St->Option α):ziH P st d t x k=(ziH P st d t x some).bind k:=by
 unfold ziH
 (repeat' split) <;> rfl
theorem zxJ{α:Type}(P:Program)(G:Gam)(st:St)(o:Oper)(k:St->Option α):zjX P G st o k=(zjX P G st o some).bind k:=by
 have tel:evT P st o (fun x=>k (st.put o.dst x))=(evT P st o fun x=>some (st.put o.dst x)).bind k:=by
  rw[ziI P st o fun x=>k (st.put o.dst x),ziI P st o fun x=>some (st.put o.dst x),Option.bind_assoc]
  rfl
 have cal : ∀ f as,zeW G st f as (fun r st'=>k (st'.put o.dst r))=(zeW G st f as fun r st'=>some (st'.put o.dst r)).bind k:=fun f as=>by
  rw[zkU G st f as fun r st'=>k (st'.put o.dst r),zkU G st f as fun r st'=>some (st'.put o.dst r),Option.bind_assoc]
  rfl
 unfold zjX
 split <;> (repeat' split) <;> first | exact tel | exact cal _ _ | exact zrW .. | exact zn0 .. | exact zn1 .. | exact zrU .. | exact zqo .. | simp[zfc,zmC]
theorem zuf{α:Type}(P:Program)(G:Gam){st:St}{o:Oper}(hw:zc5 st o=false)(hd:zfK o=false)(k:St->Option α):zjX P G st o k=evT P st o fun x=>k (st.put o.dst x):=by
 unfold zjX
 split <;> rename_i hop <;> first | (simp[zc5,hop]at hw;done) | (simp[zfK,hop]at hd;done) | rfl | skip
 . split
   . rename_i b sz i off hx
     simp only[zc5,hop,hx]at hw
     unfold zjY
     split
     . rename_i hb
       rw[hb]at hw
       cases hw
     . rfl
   . rfl
 . split
   . rename_i hx
     simp[zc5,hop,hx]at hw
   . rfl
def zEy(P:Program)(G:Gam)(s:St)(o:Oper)(f:Fp)(s1:St):Prop:=
 zfK o=false/\((∃ y x v,zvR P G (s.mask s.heap.length (zdn o) (zbi s o)) o=some y/\y.o=some x/\zCE (y.to x)=some v/\f=⟨zbi s o,[]⟩/\s1=s.put o.dst (.v v)) ∨ ∃ m,zjX P G (s.mask s.heap.length (zdn o) (zbi s o)) o some=some m/\
  ((zc5 s o=true/\s.heap.length<=m.heap.length/\f=⟨zbi s o,zbi s o++news s.heap.length m.heap.length⟩/\s1={ (s.put o.dst (m.get (o.dst.getD 0)))with heap:=zeY (zbi s o) 0 s.heap m.heap }) ∨
   (zc5 s o=false/\f=⟨zbi s o,[]⟩/\s1=s.put o.dst (m.get (o.dst.getD 0)))))
theorem znK{α:Type}{P:Program}{G:Gam}{s:St}{o:Oper}{k:Fp->St->Option α}{r:α}(h:zpF P G s o k=some r) : ∃ f s1,zEy P G s o f s1/\k f s1=some r:=by
 unfold zpF at h
 split at h
 . cases h
 . rename_i hd
   split at h
   . rename_i y hq
     rcases zi0 h with ⟨x,hx,h⟩ | ⟨_,h⟩
     . split at h
       . rename_i v hv
         exact⟨_,_,⟨hd,.inl ⟨y,x,v,hq,hx,hv,rfl,rfl⟩⟩,h⟩
       . cases h
     . cases h
   . rw[zxJ]at h
     cases hm:zjX P G (s.mask s.heap.length (zdn o) (zbi s o)) o some with
     | none=>rw[hm]at h;cases h
     | some m=>
      rw[hm]at h
      simp only[Option.bind_some]at h
      split at h
      . rename_i hw hle;exact⟨_,_,⟨hd,.inr ⟨m,hm,.inl ⟨hw,Nat.le_of_ble_eq_true hle,rfl,rfl⟩⟩⟩,h⟩
      . cases h
      . rename_i hw;exact⟨_,_,⟨hd,.inr ⟨m,hm,.inr ⟨hw,rfl,rfl⟩⟩⟩,h⟩
def IsW(l:List Oper)(s:St)(o:Oper):Prop:=o.guard=none ∨ ∃ j want d,o.guard=some (j,want)/\(l[j]?).bind (·.dst)=some d/\s.get d=.v (.bool want)
def NotW(l:List Oper)(s:St)(o:Oper):Prop:=∃ j want d,o.guard=some (j,want)/\(l[j]?).bind (·.dst)=some d/\(s.get d=.v (.bool (!want)) ∨ ∃ q,s.get d=.v (.tuple q))
def Step1(P:Program)(G:Gam)(l:List Oper)(s:St)(o:Oper)(f:Fp)(s1:St):Prop:=
 (NotW l s o/\f=⟨[],[]⟩/\s1=s.put o.dst zey) ∨ (IsW l s o/\zEy P G s o f s1)
theorem zkW {α:Type} {P:Program} {G:Gam} {l:List Oper} {k:List Fp->St->Option α} {r:α} : ∀ {rest:List Oper} {fs:List Fp} {st:St},zde P G l rest fs st k=some r->
 ∃ (fs':List Fp) (S:Nat->St),fs'.length=rest.length/\S 0=st/\(∀ i o,rest[i]?=some o->Step1 P G l (S i) o (fs'.getD i ⟨[],[]⟩) (S (i+1)))/\k (fs++fs') (S rest.length)=some r
 | [],fs,st,h=>⟨[],fun _=>st,rfl,rfl,fun i o ho=>by simp at ho,by simpa [zde]using h⟩
 | o :: rest,fs,st,h=>by
  have cons : ∀ (f:Fp) (s1:St),Step1 P G l st o f s1->zde P G l rest (fs++[f]) s1 k=some r->∃ (fs':List Fp) (S:Nat->St),fs'.length=(o :: rest).length/\S 0=st/\
   (∀ i o',(o :: rest)[i]?=some o'->Step1 P G l (S i) o' (fs'.getD i ⟨[],[]⟩) (S (i+1)))/\k (fs++fs') (S (o :: rest).length)=some r:=fun f s1 h1 h2=>by
   obtain ⟨fs',S,q1,q2,q3,q4⟩:=zkW h2
   refine⟨f :: fs',fun i=>match i with | 0=>st | i+1=>S i,by simp[q1],rfl,fun i o' ho=>?_,by simpa using q4⟩
   cases i with
   | zero=>simp at ho;subst ho;simpa [q2]using h1
   | succ i=>simpa using q3 i o' (by simpa using ho)
  simp only[zde]at h
  split at h
  . rename_i hg
    obtain ⟨f,s1,h1,h2⟩:=znK h
    exact cons f s1 (.inr ⟨.inl hg,h1⟩) h2
  . rename_i j want hg
    split at h
    . rename_i d hd
      split at h
      . rename_i t hs
        have hsame : ∀ t',t=t'->st.set d (.v (.bool t'))=st:=fun t' e=>zqO (by rw[hs,e])
        have go:(cond (t==want) (zpF P G (st.set d (.v (.bool want))) o fun f st=>zde P G l rest (fs++[f]) st k) (zde P G l rest (fs++[⟨[],[]⟩]) ((st.set d (.v (.bool (!want)))).put o.dst zey) k))=some r:=by
         cases want <;> cases t <;> exact h
        cases hq:(t==want)with
        | true=>
         rw[hq]at go
         have e:t=want:=by simpa using hq
         rw[hsame want e,cnT]at go
         obtain ⟨f,s1,h1,h2⟩:=znK go
         exact cons f s1 (.inr ⟨.inr ⟨j,want,d,hg,hd,by rw[hs,e]⟩,h1⟩) h2
        | false=>
         rw[hq]at go
         have e:t=!want:=by cases t <;> cases want <;> simp_all
         rw[hsame (!want) e,cnF]at go
         exact cons _ _ (.inl ⟨⟨j,want,d,hg,hd,.inl (by rw[hs,e])⟩,rfl,rfl⟩) go
      . rename_i q hs
        exact cons _ _ (.inl ⟨⟨j,want,d,hg,hd,.inr ⟨q,hs⟩⟩,rfl,rfl⟩) h
      . cases h
    . cases h
theorem zfM(ids:List Nat) : ∀ (i:Nat) (old new:List Blk),old.length<=new.length->(zeY ids i old new).length=new.length/\
 ∀ b,(zeY ids i old new).getD b .dead=if b<old.length/\¬ (i+b) ∈ ids then old.getD b .dead else new.getD b .dead
 | i,[],new,_=>by
  have:zeY ids i [] new=new:=by cases new <;> rfl
  rw[this];simp
 | i,k :: old,[],h=>by simp at h
 | i,k :: old,k' :: new,h=>by
  obtain ⟨h1,h2⟩:=zfM ids (i+1) old new (by simpa using h)
  refine⟨by simp[zeY,h1],fun b=>?_⟩
  cases b with
  | zero=>
   simp only[zeY]
   cases hx:zfH i ids with
   | true=>have:=hasN_iff.1 hx;simp[this]
   | false=>
    have:i ∉ ids:=fun h=>by rw[hasN_iff.2 h]at hx;cases hx
    simp[this]
  | succ b=>
   have:=h2 b
   simp only[zeY,List.getD_cons_succ,this,List.length_cons,Nat.add_lt_add_iff_right,Nat.add_assoc,Nat.add_comm 1 b]
theorem ziY{n:Nat} : ∀ {m b:Nat},b ∈ news n m ↔ n<=b/\b<m
 | 0,b=>by simp[news]
 | m+1,b=>by
  simp only[news]
  cases hx:Nat.ble n m with
  | true=>
   have hx:=Nat.le_of_ble_eq_true hx
   simp only[List.mem_append,ziY (m:=m),List.mem_singleton]
   omega
  | false=>
   have hx : ¬ n<=m:=fun h=>by rw[Nat.ble_eq_true_of_le h]at hx;cases hx
   simp only[List.not_mem_nil,false_iff]
   omega
theorem zA2(st:St)(n:Nat)(ts ids:List Nat)(hn:n<=st.heap.length):(st.mask n ts ids).heap.length=n:=by
 have key : ∀ (i:Nat) (l:List Blk),(St.mask.maskH ids n i l).length=l.length:=by
  intro i l
  induction l generalizing i with
  | nil=>rfl
  | cons k l ih=>simp[St.mask.maskH,ih]
 simp[St.mask,key,hn]
theorem zcE(s:St){d:Option Nat}{t:Nat}(h:d ≠ some t)(x:AV):(s.put d x).get t=s.get t:=by
 cases d with
 | none=>rfl
 | some d=>
  show(s.set d x).get t=_
  rw[zqr,if_neg (fun e=>h (by rw[e.1]))]
theorem Step1.keeps{P:Program}{G:Gam}{l:List Oper}{s:St}{o:Oper}{f:Fp}{s1:St}(h:Step1 P G l s o f s1) :
 s1.env.length=s.env.length/\s1.gl=s.gl/\s1.np=s.np/\(s1.df=s.df/\s1.dp=s.dp)/\s.heap.length<=s1.heap.length/\(∀ t,o.dst ≠ some t->s1.get t=s.get t)/\∀ b,b ∉ f.wr->s1.heap.getD b .dead=s.heap.getD b .dead:=by
 have hput : ∀ (x:AV),(s.put o.dst x).env.length=s.env.length/\(s.put o.dst x).gl=s.gl/\(s.put o.dst x).np=s.np/\((s.put o.dst x).df=s.df/\(s.put o.dst x).dp=s.dp)/\(s.put o.dst x).heap=s.heap:=fun x=>by
  cases o.dst <;> simp[St.put,St.set]
 rcases h with ⟨_,rfl,rfl⟩ | ⟨_,hd,⟨_,_,v,_,_,_,rfl,rfl⟩ | ⟨m,hm,hcase⟩⟩
 . obtain ⟨h1,h2,h3,h4,h5⟩:=hput zey
   exact⟨h1,h2,h3,h4,by rw[h5];exact Nat.le_refl _,fun t ht=>zcE s ht _,fun b _=>by rw[h5]⟩
 . obtain ⟨h1,h2,h3,h4,h5⟩:=hput (.v v)
   exact⟨h1,h2,h3,h4,by rw[h5];exact Nat.le_refl _,fun t ht=>zcE s ht _,fun b _=>by rw[h5]⟩
 . obtain ⟨h1,h2,h3,h4,h5⟩:=hput (m.get (o.dst.getD 0))
   rcases hcase with ⟨_,hle,rfl,rfl⟩ | ⟨_,rfl,rfl⟩
   . obtain ⟨g1,g2⟩:=zfM (zbi s o) 0 s.heap m.heap hle
     refine⟨h1,h2,h3,h4,by rw[g1];exact hle,fun t ht=>zcE s ht _,fun b hb=>?_⟩
     simp only[List.mem_append,not_or,ziY]at hb
     rw[g2 b,Nat.zero_add]
     by_cases hlt:b<s.heap.length
     . rw[if_pos ⟨hlt,hb.1⟩]
     . rw[if_neg (fun e=>hlt e.1)]
       have:m.heap.length<=b:=by omega
       simp[List.getD,List.getElem?_eq_none this,List.getElem?_eq_none (Nat.le_of_not_lt hlt)]
   . exact⟨h1,h2,h3,h4,by rw[h5];exact Nat.le_refl _,fun t ht=>zcE s ht _,fun b _=>by rw[h5]⟩
section
variable (S:Nat->St) (D:Nat->Option Nat) (W:Nat->List Nat) (L:Nat->Bool)
def zcb(t:Nat):Nat->AV
 | 0=>(S 0).get t
 | k+1=>if L k=true/\D k=some t then(S (k+1)).get t else zcb t k
def zcc(b:Nat):Nat->Blk
 | 0=>(S 0).heap.getD b .dead
 | k+1=>if L k=true/\b ∈ W k then(S (k+1)).heap.getD b .dead else zcc b k
end
section
variable {S:Nat->St} {D:Nat->Option Nat} {W:Nat->List Nat} {L:Nat->Bool}
theorem zmq{t j:Nat} : ∀ {n:Nat},j<=n->(∀ i,j<=i->i<n->L i=true->D i ≠ some t)->zcb S D L t n=zcb S D L t j
 | 0,hj,_=>by rw[show j=0 by omega]
 | n+1,hj,h=>by
  by_cases e:j=n+1
  . rw[e]
  . rw[zcb,if_neg (fun q=>h n (by omega) (by omega) q.1 q.2)]
    exact zmq (by omega) fun i h1 h2=>h i h1 (by omega)
theorem zj5{t:Nat}(hS : ∀ i,D i ≠ some t->(S (i+1)).get t=(S i).get t) : ∀ {j:Nat},(∀ i,i<j->D i=some t->L i=true)->zcb S D L t j=(S j).get t
 | 0,_=>rfl
 | j+1,h=>by
  by_cases e:D j=some t
  . rw[zcb,if_pos ⟨h j (by omega) e,e⟩]
  . rw[zcb,if_neg (fun q=>e q.2),hS j e]
    exact zj5 hS fun i hi=>h i (by omega)
theorem zms{b j:Nat} : ∀ {n:Nat},j<=n->(∀ i,j<=i->i<n->L i=true->b ∉ W i)->zcc S W L b n=zcc S W L b j
 | 0,hj,_=>by rw[show j=0 by omega]
 | n+1,hj,h=>by
  by_cases e:j=n+1
  . rw[e]
  . rw[zcc,if_neg (fun q=>h n (by omega) (by omega) q.1 q.2)]
    exact zms (by omega) fun i h1 h2=>h i h1 (by omega)
theorem zj6{b:Nat}(hS : ∀ i,b ∉ W i->(S (i+1)).heap.getD b .dead=(S i).heap.getD b .dead) : ∀ {j:Nat},(∀ i,i<j->b ∈ W i->L i=true)->zcc S W L b j=(S j).heap.getD b .dead
 | 0,_=>rfl
 | j+1,h=>by
  by_cases e:b ∈ W j
  . rw[zcc,if_pos ⟨h j (by omega) e,e⟩]
  . rw[zcc,if_neg (fun q=>e q.2),hS j e]
    exact zj6 hS fun i hi=>h i (by omega)
theorem zh1{L':Nat->Bool}{t j:Nat}(hL : ∀ i,L' i=true ↔ L i=true ∨ i=j) : ∀ {n:Nat},(D j=some t->j<n->∀ i,j<i->i<n->L i=true->D i ≠ some t)->zcb S D L' t n=if D j=some t/\j<n then(S (j+1)).get t else zcb S D L t n
 | 0,_=>by simp[zcb]
 | n + 1,h=>by
  by_cases e:n=j
  . subst e
    by_cases hd:D n=some t
    . rw[zcb,if_pos ⟨(hL n).2 (.inr rfl),hd⟩,if_pos ⟨hd,by omega⟩]
    . rw[zcb,if_neg (fun q=>hd q.2),if_neg (fun q=>hd q.1),zh1 hL (fun q=>absurd q hd),if_neg (fun q=>hd q.1),zcb,if_neg (fun q=>hd q.2)]
  . by_cases hq:L n=true/\D n=some t
    . have hq':L' n=true/\D n=some t:=⟨(hL n).2 (.inl hq.1),hq.2⟩
      rw[zcb,if_pos hq',zcb,if_pos hq]
      by_cases hd:D j=some t/\j<n+1
      . exact absurd hq.2 (h hd.1 hd.2 n (by omega) (by omega) hq.1)
      . rw[if_neg hd]
    . have hq' : ¬ (L' n=true/\D n=some t):=fun q=>by
       rcases (hL n).1 q.1 with h1 | h1
       . exact hq ⟨h1,q.2⟩
       . exact e h1
      rw[zcb,if_neg hq',zh1 (n:=n) hL (fun h1 h2 i h3 h4=>h h1 (by omega) i h3 (by omega)),zcb,if_neg hq]
      by_cases hd:D j=some t/\j<n
      . rw[if_pos hd,if_pos ⟨hd.1,by omega⟩]
      . rw[if_neg hd,if_neg (fun q=>hd ⟨q.1,by omega⟩)]
theorem zh2{L':Nat->Bool}{b j:Nat}(hL : ∀ i,L' i=true ↔ L i=true ∨ i=j) : ∀ {n:Nat},(b ∈ W j->j<n->∀ i,j<i->i<n->L i=true->b ∉ W i)->zcc S W L' b n=if b ∈ W j/\j<n then(S (j+1)).heap.getD b .dead else zcc S W L b n
 | 0,_=>by simp[zcc]
 | n + 1,h=>by
  by_cases e:n=j
  . subst e
    by_cases hd:b ∈ W n
    . rw[zcc,if_pos ⟨(hL n).2 (.inr rfl),hd⟩,if_pos ⟨hd,by omega⟩]
    . rw[zcc,if_neg (fun q=>hd q.2),if_neg (fun q=>hd q.1),zh2 hL (fun q=>absurd q hd),if_neg (fun q=>hd q.1),zcc,if_neg (fun q=>hd q.2)]
  . by_cases hq:L n=true/\b ∈ W n
    . have hq':L' n=true/\b ∈ W n:=⟨(hL n).2 (.inl hq.1),hq.2⟩
      rw[zcc,if_pos hq',zcc,if_pos hq]
      by_cases hd:b ∈ W j/\j<n+1
      . exact absurd hq.2 (h hd.1 hd.2 n (by omega) (by omega) hq.1)
      . rw[if_neg hd]
    . have hq' : ¬ (L' n=true/\b ∈ W n):=fun q=>by
       rcases (hL n).1 q.1 with h1 | h1
       . exact hq ⟨h1,q.2⟩
       . exact e h1
      rw[zcc,if_neg hq',zh2 (n:=n) hL (fun h1 h2 i h3 h4=>h h1 (by omega) i h3 (by omega)),zcc,if_neg hq]
      by_cases hd:b ∈ W j/\j<n
      . rw[if_pos hd,if_pos ⟨hd.1,by omega⟩]
      . rw[if_neg hd,if_neg (fun q=>hd ⟨q.1,by omega⟩)]
end
def Gh.mask(β:Gh)(q:Nat)(ids:List Nat):Gh:=
 ⟨β.b,β.v,fun p=>match β.o p with | some (b,s)=>if b ∈ ids/\b<q then some (b,s)else none | none=>none,fun b=>β.l b/\b<q⟩
theorem mask_o{β:Gh}{q:Nat}{ids:List Nat}{p:Nat}{κ:Nat × Option (Nat × Nat)}:(β.mask q ids).o p=some κ ↔ β.o p=some κ/\κ.1 ∈ ids/\κ.1<q:=by
 simp only[Gh.mask]
 cases hq:β.o p with
 | none=>simp
 | some κ'=>
  obtain ⟨b,s⟩:=κ'
  by_cases h:b ∈ ids/\b<q
  . simp only[if_pos h,Option.some.injEq]
    constructor
    . rintro rfl;exact⟨rfl,h⟩
    . exact fun h=>h.1
  . simp only[if_neg h,Option.some.injEq]
    constructor
    . intro h;cases h
    . rintro ⟨rfl,h'⟩;exact absurd h' h
theorem zkE{n b j:Nat}(h:znR n b=some j):j=b/\b<n:=by
 unfold znR at h
 split at h
 . rename_i hb;simp at h;exact⟨h.symm,by simpa using hb⟩
 . cases h
theorem zdj(ts:List Nat)(n:Nat) : ∀ (i:Nat) (l:List AV),(St.mask.maskE ts n i l).length=l.length/\∀ t,(St.mask.maskE ts n i l).getD t .undef=if(i+t) ∈ ts then(l.getD t .undef).mapB (znR n) 9 else .undef
 | i,[]=>by simp[St.mask.maskE,AV.mapB]
 | i,x :: l=>by
  obtain ⟨h1,h2⟩:=zdj ts n (i+1) l
  refine⟨by simp[St.mask.maskE,h1],fun t=>?_⟩
  cases t with
  | zero=>
   simp only[St.mask.maskE,List.getD_cons_zero,Nat.add_zero]
   cases hx:zfH i ts with
   | true=>rw[if_pos (hasN_iff.1 hx)]
   | false=>rw[if_neg (fun h=>by rw[hasN_iff.2 h]at hx;cases hx)]
  | succ t=>
   have:=h2 t
   rw[show i+1+t=i+(t+1)by omega]at this
   simpa [St.mask.maskE]using this
theorem zeb(ids:List Nat)(n:Nat) : ∀ (i:Nat) (l:List Blk),(St.mask.maskH ids n i l).length=l.length/\∀ b,(St.mask.maskH ids n i l).getD b .dead=if(i+b) ∈ ids then(l.getD b .dead).mapB (znR n)else .dead
 | i,[]=>by simp[St.mask.maskH,Blk.mapB]
 | i,x :: l=>by
  obtain ⟨h1,h2⟩:=zeb ids n (i+1) l
  refine⟨by simp[St.mask.maskH,h1],fun t=>?_⟩
  cases t with
  | zero=>
   simp only[St.mask.maskH,List.getD_cons_zero,Nat.add_zero]
   cases hx:zfH i ids with
   | true=>rw[if_pos (hasN_iff.1 hx)]
   | false=>rw[if_neg (fun h=>by rw[hasN_iff.2 h]at hx;cases hx)]
  | succ t=>
   have:=h2 t
   rw[show i+1+t=i+(t+1)by omega]at this
   simpa [St.mask.maskH]using this
theorem zdu{α:Type}{d:α}{l r:List α}(hl:l.length=r.length)(h : ∀ i,l.getD i d=r.getD i d):l=r:=by
 apply List.ext_getElem hl
 intro i h1 h2
 have:=h i
 simpa [List.getD,h1,h2]using this
theorem zDQ{s t:St}{n:Nat}{ts ids:List Nat}(he:s.env.length=t.env.length)(hgl:s.gl=t.gl)(hdf:s.df=t.df)(hdp:s.dp=t.dp)(hn:n<=s.heap.length)(hn':n<=t.heap.length)
 (hE : ∀ i,i ∈ ts->s.get i=t.get i) (hH : ∀ b,b ∈ ids->b<n->s.heap.getD b .dead=t.heap.getD b .dead):s.mask n ts ids=t.mask n ts ids:=by
 obtain ⟨e1,e2⟩:=zdj ts n 0 s.env
 obtain ⟨f1,f2⟩:=zdj ts n 0 t.env
 obtain ⟨g1,g2⟩:=zeb ids n 0 (s.heap.take n)
 obtain ⟨h1,h2⟩:=zeb ids n 0 (t.heap.take n)
 have k1:St.mask.maskE ts n 0 s.env=St.mask.maskE ts n 0 t.env:=by
  apply zdu (d:=.undef) (by rw[e1,f1,he])
  intro i
  rw[e2,f2,Nat.zero_add]
  by_cases hi:i ∈ ts
  . rw[if_pos hi,if_pos hi]
    have:s.env.getD i .undef=t.env.getD i .undef:=hE i hi
    rw[this]
  . rw[if_neg hi,if_neg hi]
 have k2:St.mask.maskH ids n 0 (s.heap.take n)=St.mask.maskH ids n 0 (t.heap.take n):=by
  apply zdu (d:=.dead) (by rw[g1,h1];simp[hn,hn'])
  intro b
  rw[g2,h2,Nat.zero_add]
  by_cases hb:b ∈ ids
  . rw[if_pos hb,if_pos hb]
    congr 1
    by_cases hlt:b<n
    . have:=hH b hb hlt
      simpa [List.getD,List.getElem?_take,hlt]using this
    . simp[List.getD,List.getElem?_take,hlt]
  . rw[if_neg hb,if_neg hb]
 unfold St.mask
 rw[k1,k2,hgl,hdf,hdp]
section
variable {P:Program} {GL:List AV} {G:Gam} {B:Bs} {F:Nat->Prop} {β:Gh} {st:St} {a:Act} {w:World}
def zFn(w:World)(F:Nat->Prop)(β:Gh)(q:Nat)(ids:List Nat):Bs:=⟨w,fun p=>(β.mask q ids).o p ≠ none,F,β.mask q ids⟩
theorem zA1{q:Nat}{ids:List Nat}(n:Nat){x:AV}{y:Value}(h:V F w β x y):V F w (β.mask q ids) (x.mapB (znR q) n) y:=
 zmx (fun b j hb hj=>by
  obtain ⟨rfl,h2⟩:=zkE hj
  exact⟨⟨hb,h2⟩,rfl,rfl⟩) n h
theorem zvF{q:Nat}{ids:List Nat}{cs:List AV}{Y:Nat->Value}(h : ∀ j,j<cs.length->V F w β (cs.getD j .undef) (Y j))(n:Nat) : ∀ j,j<(cs.map (AV.mapB (znR q) n)).length->V F w (β.mask q ids) ((cs.map (AV.mapB (znR q) n)).getD j .undef) (Y j):=fun j hj=>by
 have hj':j<cs.length:=by simpa using hj
 have:=zA1 (q:=q) (ids:=ids) n (h j hj')
 simpa [List.getD,hj']using this
theorem Rel.mask(h:Rel B F β st a w){q:Nat}(hq:q<=st.heap.length)(ts ids:List Nat):Rel (zFn w F β q ids) F (β.mask q ids) (st.mask q ts ids) a w:=by
 obtain ⟨e1,e2⟩:=zdj ts q 0 st.env
 obtain ⟨g1,g2⟩:=zeb ids q 0 (st.heap.take q)
 have hlen:(st.mask q ts ids).heap.length=q:=zA2 st q ts ids hq
 refine⟨by rw[show(st.mask q ts ids).env=St.mask.maskE ts q 0 st.env from rfl,e1];exact h.len,fun t=>?_,h.gl,?_,.refl _ _,fun p hp=>.inl hp,fun p hp=>hp,fun p κ hp=>.inl (by show(β.mask q ids).o p ≠ none;rw[hp];simp),.refl _,fun j hj=>hj.2,fun b hb=>.inl hb,Nat.le_of_eq hlen.symm,h.heap.fb,fun b k hb=>?_,fun p κ hp=>h.heap.lt p κ (mask_o.1 hp).1,fun p κ hp=>h.heap.sep p κ (mask_o.1 hp).1,fun b hb=>by rw[hlen];exact hb.2⟩
 . show V F w _ ((St.mask.maskE ts q 0 st.env).getD t .undef) _
   rw[e2,Nat.zero_add]
   split
   . exact zA1 9 (h.env t)
   . exact .undef _
 . have key : ∀ {l:List (FuncId × List AV)} {ds:List Deferred},DfOk F w β l ds->DfOk F w (β.mask q ids) (l.map fun(f,as)=>(f,as.map (AV.mapB (znR q) 9))) ds:=by
    intro l
    induction l with
    | nil=>intro ds h;cases ds with | nil=>trivial | cons=>exact h.elim
    | cons x l ih=>
     intro ds h
     obtain ⟨f,as⟩:=x
     cases ds with
     | nil=>exact h.elim
     | cons d ds=>
      obtain ⟨⟨cap,h1,h2,h3⟩,h4⟩:=h
      exact⟨⟨cap,h1,by simpa using h2,zvF h3 9⟩,ih h4⟩
   exact key h.df
 . have hb':(St.mask.maskH ids q 0 (st.heap.take q))[b]?=some k:=hb
   have hlt:b<q:=by
    have:=(List.getElem?_eq_some_iff.1 hb').1
    rw[g1]at this
    simp at this;omega
   have hk:k=(St.mask.maskH ids q 0 (st.heap.take q)).getD b .dead:=by simp[List.getD,hb']
   rw[g2,Nat.zero_add]at hk
   by_cases hi:b ∈ ids
   . rw[if_pos hi]at hk
     have hb0:b<st.heap.length:=by omega
     have hold:=h.heap.blk b st.heap[b] (by simp[hb0])
     have he:(st.heap.take q).getD b .dead=st.heap[b]:=by simp[List.getD,List.getElem?_take,hlt,hb0]
     rw[he]at hk
     subst hk
     have hkey : ∀ p s,β.o p=some (b,s)->(β.mask q ids).o p=some (b,s):=fun p s hp=>mask_o.2 ⟨hp,hi,hlt⟩
     generalize st.heap[b]=k0 at hold
     cases k0 with
     | cells e cs=>
      obtain ⟨ys,T,h1,h2,h3,h4⟩:=hold
      exact⟨ys,T,h1,by simpa using h2,hkey _ _ h3,zvF h4 9⟩
     | row e t cols hole xs=>
      obtain ⟨Vs,h1,h2,h3,h4⟩:=hold
      exact⟨Vs,h1,h2,fun p hp=>hkey _ _ (h3 p hp),fun i' j' hi' hj'=>(h4 i' j' hi' hj').mapB (zaO (fun _ h=>h) w) (fun c d hc hd=>by
       obtain ⟨rfl,q2⟩:=zkE hd
       exact⟨⟨hc,q2⟩,rfl⟩) fun p hp=>⟨hkey _ _ hp,rfl⟩⟩
     | ro t xs=>exact hold
     | rob t x=>exact hold
     | map k v cols es=>
      obtain ⟨Es,clock,h1,h2,h3,h4,h5⟩:=hold
      exact⟨Es,clock,h1,h2,hkey _ _ h3,h4,fun i' hi'=>(h5 i' hi').turn (zaO (fun _ h=>h) w) (fun _=>.nil) (fun h=>h) fun p hp=>⟨hkey _ _ hp,rfl⟩⟩
     | rom k v es=>exact hold
     | dead=>trivial
   . rw[if_neg hi]at hk
     subst hk;trivial
theorem Rel.merge (h:Rel B F β st a w) {q:Nat} {ids:List Nat} (hqn:st.np<=q) {F':Nat->Prop} {β':Gh} {m:St} {o:Oper} {u:Value} {w':World}
 (hm:Rel (zFn w F β q ids) F' β' m (a.put o.dst u) w') (hnp:m.np=q) (hmq:q<=m.heap.length) (hml:m.heap.length<=st.heap.length) (hnew : ∀ b,q<=b->b<m.heap.length->¬ β.l b)
 {hp:List Blk} (hpl:hp.length=st.heap.length) (h1 : ∀ b,(b ∈ ids/\b<q) ∨ (q<=b/\b<m.heap.length)->hp.getD b .dead=m.heap.getD b .dead) (h2 : ∀ b,¬ ((b ∈ ids/\b<q) ∨ (q<=b/\b<m.heap.length))->hp.getD b .dead=st.heap.getD b .dead) :
 ∃ F2 β2,Rel B F2 β2 { (st.put o.dst (m.get (o.dst.getD 0)))with heap:=hp } (a.put o.dst u) w'/\∀ b,β2.l b->β.l b ∨ (q<=b/\b<m.heap.length):=by
 classical
 let In:Nat->Prop:=fun b=>(b ∈ ids/\b<q) ∨ (q<=b/\b<m.heap.length)
 let β2:Gh:=⟨fun b=>if In b then β'.b b else β.b b,fun b=>if In b then β'.v b else β.v b,fun p=>match β'.o p with | some κ=>some κ | none=>(match β.o p with | some (c,s)=>if c ∈ ids/\c<q then none else some (c,s) | none=>none),fun b=>β.l b ∨ β'.l b⟩
 have hl' : ∀ b,β'.l b->(β.l b/\b<q) ∨ (q<=b/\b<m.heap.length):=fun b hb=>by
  have h2:=hm.heap.live b hb
  rcases hm.nw b hb with h1 | h1
  . exact .inl h1
  . exact .inr ⟨by rw[hnp]at h1;exact h1,h2⟩
 have hle1:β.Le β2:=fun b hb=>by
  refine⟨.inl hb,?_,?_⟩
  . show(if In b then β'.b b else β.b b)=_
    split
    . rename_i hin
      rcases hin with hin | hin
      . exact(hm.per b ⟨hb,hin.2⟩).2.1
      . exact absurd hb (hnew b hin.1 hin.2)
    . rfl
  . show(if In b then β'.v b else β.v b)=_
    split
    . rename_i hin
      rcases hin with hin | hin
      . exact(hm.per b ⟨hb,hin.2⟩).2.2
      . exact absurd hb (hnew b hin.1 hin.2)
    . rfl
 have hle2:β'.Le β2:=fun b hb=>by
  refine⟨.inr hb,?_,?_⟩
  . show(if In b then β'.b b else β.b b)=_
    split
    . rfl
    . rename_i hin
      rcases hl' b hb with h1 | h1
      . exact(hm.per b h1).2.1.symm
      . exact absurd (.inr h1) hin
  . show(if In b then β'.v b else β.v b)=_
    split
    . rfl
    . rename_i hin
      rcases hl' b hb with h1 | h1
      . exact(hm.per b h1).2.2.symm
      . exact absurd (.inr h1) hin
 have hkept:Keeps (fun p=>(β.mask q ids).o p ≠ none) w w':=hm.kept
 have hE:Ext F F' w w':=⟨hkept.size,fun p hF hp=>⟨hm.fi p hF,hkept.block p hp fun hq=>by
  cases ho:(β.mask q ids).o p with
  | none=>exact hq ho
  | some κ=>exact h.heap.sep p _ (mask_o.1 ho).1 hF⟩⟩
 have hM : ∀ p,(β.mask q ids).o p ≠ none->∃ b s,β.o p=some (b,s)/\b ∈ ids/\b<q:=fun p hp=>by
  cases ho:(β.mask q ids).o p with
  | none=>exact absurd ho hp
  | some κ=>obtain ⟨g1,g2,g3⟩:=mask_o.1 ho;exact⟨κ.1,κ.2,g1,g2,g3⟩
 have ho2 : ∀ p κ,β2.o p=some κ->β'.o p=some κ ∨ (β'.o p=none/\β.o p=some κ/\¬ (κ.1 ∈ ids/\κ.1<q)):=fun p κ hp=>by
  have hp':(match β'.o p with | some κ=>some κ | none=>(match β.o p with | some (c,s)=>if c ∈ ids/\c<q then none else some (c,s) | none=>none))=some κ:=hp
  cases hx:β'.o p with
  | some κ'=>rw[hx]at hp';simp at hp';subst hp';exact .inl rfl
  | none=>
   rw[hx]at hp'
   simp only at hp'
   split at hp'
   . rename_i c s hc
     split at hp'
     . cases hp'
     . rename_i hn;simp at hp';subst hp';exact .inr ⟨rfl,hc,hn⟩
   . cases hp'
 have hlo' : ∀ p κ,β'.o p=some κ->(∃ b s,β.o p=some (b,s)/\b ∈ ids/\b<q) ∨ w.heap.size<=p:=fun p κ hp=>by
  rcases hm.lo p κ hp with h1 | h1
  . exact .inl (hM p h1)
  . exact .inr h1
 have hHOk : HOk F' w' β2 hp:=by
  refine⟨hm.heap.fb,fun b k hb=>?_,fun p κ hp'=>?_,fun p κ hp' hF=>?_,fun b hb=>?_⟩
  . have hk:hp.getD b .dead=k:=by simp[List.getD,hb]
    by_cases hin:In b
    . rw[h1 b hin]at hk
      cases hmb:m.heap[b]? with
      | none=>
       simp only[List.getD,hmb,Option.getD_none]at hk
       subst hk;trivial
      | some k'=>
       simp only[List.getD,hmb,Option.getD_some]at hk
       subst hk
       refine(hm.heap.blk b _ hmb).mono ⟨Nat.le_refl _,fun p hp _=>⟨hp,rfl⟩⟩ hle2 ⟨?_,?_⟩ (fun p s hp'=>⟨?_,rfl⟩)
       . show(if In b then β'.b b else β.b b)=_;rw[if_pos hin]
       . show(if In b then β'.v b else β.v b)=_;rw[if_pos hin]
       . show(match β'.o p with | some κ=>some κ | none=>_)=_;rw[hp']
    . rw [h2 b hin]at hk
      cases hsb:st.heap[b]? with
      | none=>
       simp only[List.getD,hsb,Option.getD_none]at hk
       subst hk;trivial
      | some k'=>
       simp only[List.getD,hsb,Option.getD_some]at hk
       subst hk
       refine(h.heap.blk b _ hsb).mono hE hle1 ⟨?_,?_⟩ (fun p s hp'=>?_)
       . show(if In b then β'.b b else β.b b)=_;rw[if_neg hin]
       . show(if In b then β'.v b else β.v b)=_;rw[if_neg hin]
       . have hpl':=h.heap.lt p _ hp'
         have hnid : ¬ (b ∈ ids/\b<q):=fun e=>hin (.inl e)
         have hbo:β'.o p=none:=by
          cases hx:β'.o p with
          | none=>rfl
          | some κ=>
           rcases hlo' p κ hx with ⟨b',s',g1,g2⟩ | g1
           . rw[hp']at g1;simp at g1;rw[← g1.1]at g2;exact absurd g2 hnid
           . omega
         refine⟨?_,hkept.block p hpl' fun hq=>?_⟩
         . show(match β'.o p with | some κ=>some κ | none=>(match β.o p with | some (c,s)=>if c ∈ ids/\c<q then none else some (c,s) | none=>none))=_
           rw[hbo,hp'];simp only;rw[if_neg hnid]
         . obtain ⟨b',s',g1,g2⟩:=hM p hq
           rw[hp']at g1;simp at g1;rw[← g1.1]at g2;exact absurd g2 hnid
  . rcases ho2 p κ hp' with h1 | ⟨_,h1,_⟩
    . exact hm.heap.lt p κ h1
    . exact Nat.lt_of_lt_of_le (h.heap.lt p κ h1) hkept.size
  . rcases ho2 p κ hp' with h1 | ⟨_,h1,hn⟩
    . exact hm.heap.sep p κ h1 hF
    . rcases hm.fo p hF with h3 | h3 | h3
      . exact h.heap.sep p κ h1 h3
      . obtain ⟨b,s,g1,g2⟩:=hM p h3
        rw[h1]at g1
        cases g1
        exact hn g2
      . have h3:w.heap.size<=p:=h3
        have:=h.heap.lt p κ h1;omega
  . rw[hpl]
    rcases hb with hb | hb
    . exact h.heap.live b hb
    . have:=hm.heap.live b hb;omega
 refine⟨F',β2,?_,fun b hb=>?_⟩
 . have hA:Rel B F' β2 { st with heap:=hp } a w':=
    ⟨h.len,fun t=>(h.env t).mono hE hle1,fun g=>(h.gl g).mono hE,h.df.imp fun _ _ hv=>hv.mono hE hle1,h.kept.trans hkept (fun _ h=>h) (fun p hp'=>by
    obtain ⟨b,s,g1,_⟩:=hM p hp'
    exact h.lo p _ g1),(fun p hF=>by
    rcases hm.fo p hF with h3 | h3 | h3
    . exact h.fo p h3
    . obtain ⟨b,s,g1,_⟩:=hM p h3
      exact .inr (h.lo p _ g1)
    . exact .inr (.inr (Nat.le_trans h.kept.size h3))),(fun p hF=>hm.fi p (h.fi p hF)),(fun p κ hp'=>by
    rcases ho2 p κ hp' with h1 | ⟨_,h1,_⟩
    . rcases hlo' p κ h1 with ⟨b,s,g1,_⟩ | g1
      . exact h.lo p _ g1
      . exact .inr (Nat.le_trans h.kept.size g1)
    . exact h.lo p κ h1),h.per.trans hle1,h.bn,(fun b hb=>by
    rcases hb with hb | hb
    . exact h.nw b hb
    . rcases hl' b hb with g | g
      . exact h.nw b g.1
      . exact .inr (Nat.le_trans hqn g.1)),by rw[hpl];exact h.hn,hHOk⟩
   cases hd:o.dst with
   | none=>simpa [St.put,Act.put,hd]using hA
   | some d=>
    have hv:V F' w' β2 (m.get d) u:=by
     have h3:=(hm.env d).mono (⟨Nat.le_refl _,fun p hp _=>⟨hp,rfl⟩⟩:Ext F' F' w' w') hle2
     have hlen:m.env.length=a.tmps.size:=by rw[hm.len,hd];simp[Act.put]
     simp only[hd,Act.put,Array.getD_eq_getD_getElem?,Array.getElem?_setIfInBounds]at h3
     by_cases hlt:d<a.tmps.size
     . simpa [hlt]using h3
     . have hge:m.env.length<=d:=by rw[hlen];exact Nat.le_of_not_lt hlt
       have:m.get d=.undef:=by
        unfold St.get
        rw[List.getD,List.getElem?_eq_none hge]
        rfl
       rw[this];exact .undef _
    exact hA.put (some d) hv
 . rcases hb with hb | hb
   . exact .inl hb
   . rcases hl' b hb with g | g
     . exact .inl g.1
     . exact .inr g
theorem ztR(ops:Array Oper) : ∀ (l:List Oper) (acc:Array Nat),let r:=l.foldl (init:=acc) fun acc o=>acc.push (o.after.foldl (fun s e=>if Region.binds .any e then s ||| 2 ^ e.on ||| acc.getD e.on 0 else s) 0)
 (∀ j,j<acc.size->r.getD j 0=acc.getD j 0)/\r.size=acc.size+l.length:=by
 intro l
 induction l with
 | nil=>intro acc;exact⟨fun j _=>rfl,rfl⟩
 | cons o l ih=>
  intro acc
  obtain ⟨h1,h2⟩:=ih (acc.push (o.after.foldl (fun s e=>if Region.binds .any e then s ||| 2 ^ e.on ||| acc.getD e.on 0 else s) 0))
  refine⟨fun j hj=>?_,?_⟩
  . simp only[List.foldl_cons]
    rw[h1 j (by simp;omega)]
    simp[Array.getD,hj,Array.getElem_push,show j<acc.size+1 by omega]
  . simp only[List.foldl_cons]
    rw[h2];simp;omega
theorem zot(acc:Array Nat)(p:Nat) : ∀ (l:List Edge) (s:Nat),Nat.testBit (l.foldl (fun s e=>if Region.binds .any e then s ||| 2 ^ e.on ||| acc.getD e.on 0 else s) s) p=true->Nat.testBit s p=true ∨ ∃ e,e ∈ l/\Region.binds .any e=true/\(p=e.on ∨ Nat.testBit (acc.getD e.on 0) p=true)
 | [],s,h=>.inl h
 | e :: l,s,h=>by
  simp only[List.foldl_cons]at h
  rcases zot acc p l _ h with h1 | ⟨e',h1,h2,h3⟩
  . split at h1
    . rename_i hb
      simp only[Nat.testBit_or,Bool.or_eq_true,Nat.testBit_two_pow,decide_eq_true_eq]at h1
      rcases h1 with (h1 | h1) | h1
      . exact .inl h1
      . exact .inr ⟨e,by simp,hb,.inl h1.symm⟩
      . exact .inr ⟨e,by simp,hb,.inr h1⟩
    . exact .inl h1
  . exact .inr ⟨e',by simp[h1],h2,h3⟩
theorem zkG(ops:Array Oper)(j p:Nat)(h:Nat.testBit ((Region.before ops).getD j 0) p=true) : ∃ o,ops[j]?=some o/\∃ e,e ∈ o.after.toList/\Region.binds .any e=true/\(p=e.on ∨ Nat.testBit ((Region.before ops).getD e.on 0) p=true):=by
 have key : ∀ (l:List Oper) (acc:Array Nat),let f:=fun(acc:Array Nat) (o:Oper)=>acc.push (o.after.foldl (fun s e=>if Region.binds .any e then s ||| 2 ^ e.on ||| acc.getD e.on 0 else s) 0)
  ∀ j,acc.size<=j->Nat.testBit ((l.foldl f acc).getD j 0) p=true->∃ o,l[j-acc.size]?=some o/\∃ e,e ∈ o.after.toList/\Region.binds .any e=true/\(p=e.on ∨ Nat.testBit ((l.foldl f acc).getD e.on 0) p=true):=by
  intro l
  induction l with
  | nil=>intro acc f j hj ht;simp[Array.getD,Nat.not_lt.2 hj]at ht
  | cons o l ih=>
   intro acc f j hj ht
   simp only[List.foldl_cons]at ht ⊢
   by_cases e:j=acc.size
   . subst e
     obtain ⟨h1,h2⟩:=ztR ops l (f acc o)
     have hs:(f acc o).size=acc.size+1:=by simp[f]
     rw[h1 acc.size (by omega)]at ht
     have hpush : ∀ x:Nat,(acc.push x).getD acc.size 0=x:=fun x=>by simp[Array.getD]
     have ht:Nat.testBit ((acc.push (o.after.foldl (fun s e=>if Region.binds .any e then s ||| 2 ^ e.on ||| acc.getD e.on 0 else s) 0)).getD acc.size 0) p=true:=ht
     rw[hpush,← Array.foldl_toList]at ht
     rcases zot acc p _ _ ht with h3 | ⟨e,h3,h4,h5⟩
     . simp at h3
     . refine⟨o,by simp,e,h3,h4,?_⟩
       rcases h5 with h5 | h5
       . exact .inl h5
       . right
         by_cases hlt:e.on<acc.size
         . rw[h1 e.on (by omega)]
           have:(f acc o).getD e.on 0=acc.getD e.on 0:=by simp[f,Array.getD,hlt,Array.getElem_push,show e.on<acc.size+1 by omega]
           rw[this];exact h5
         . simp[Array.getD,hlt]at h5
   . obtain ⟨o',h1,h2⟩:=ih (f acc o) j (by simp[f];omega) ht
     refine⟨o',?_,h2⟩
     rw[show j-acc.size=(j-(f acc o).size)+1 by simp[f];omega]
     simpa using h1
 have h':Nat.testBit ((ops.toList.foldl (fun(acc:Array Nat) (o:Oper)=>acc.push (o.after.foldl (fun s e=>if Region.binds .any e then s ||| 2 ^ e.on ||| acc.getD e.on 0 else s) 0)) #[]).getD j 0) p=true:=by
  have e:Region.before ops=ops.toList.foldl (fun(acc:Array Nat) (o:Oper)=>acc.push (o.after.foldl (fun s e=>if Region.binds .any e then s ||| 2 ^ e.on ||| acc.getD e.on 0 else s) 0)) #[]:=by
   unfold Region.before;rw[← Array.foldl_toList]
  rw[← e];exact h
 obtain ⟨o,h1,e,h2,h3,h4⟩:=key ops.toList #[] j (Nat.zero_le _) h'
 refine⟨o,by simpa using h1,e,h2,h3,?_⟩
 rcases h4 with h4 | h4
 . exact .inl h4
 . right
   have e':Region.before ops=ops.toList.foldl (fun(acc:Array Nat) (o:Oper)=>acc.push (o.after.foldl (fun s e=>if Region.binds .any e then s ||| 2 ^ e.on ||| acc.getD e.on 0 else s) 0)) #[]:=by
    unfold Region.before;rw[← Array.foldl_toList]
   rw[e'];exact h4
theorem ziU{l:List Oper}{bs:List Nat}{i:Nat}{o:Oper}{f:Fp} : ∀ {j:Nat} {os:List Oper} {fs:List Fp},indepAll.indepOne l bs i o f j os fs=true->∀ k o' f',os[k]?=some o'->fs[k]?=some f'->Nat.testBit (bs.getD (j+k) 0) i=true ∨ ziS l o o' f f'=true
 | j,[],fs,h,k,o',f',ho,hf=>by simp at ho
 | j,o1 :: os,[],h,k,o',f',ho,hf=>by simp at hf
 | j,o1 :: os,f1 :: fs,h,k,o',f',ho,hf=>by
  simp only[indepAll.indepOne,Bool.and_eq_true,Bool.or_eq_true]at h
  cases k with
  | zero=>simp at ho hf;subst ho hf;simpa using h.1
  | succ k=>
   have:=ziU h.2 k o' f' (by simpa using ho) (by simpa using hf)
   rwa [show j+1+k=j+(k+1)by omega]at this
theorem ziT{l:List Oper}{bs:List Nat} : ∀ {i:Nat} {os:List Oper} {fs:List Fp},indepAll l bs i os fs=true->∀ m k o f o' f',m<k->os[m]?=some o->fs[m]?=some f->os[k]?=some o'->fs[k]?=some f'->Nat.testBit (bs.getD (i+k) 0) (i+m)=true ∨ ziS l o o' f f'=true
 | i,[],fs,h,m,k,o,f,o',f',hmk,ho,hf,ho',hf'=>by simp at ho
 | i,o1 :: os,[],h,m,k,o,f,o',f',hmk,ho,hf,ho',hf'=>by simp at hf
 | i,o1 :: os,f1 :: fs,h,m,k,o,f,o',f',hmk,ho,hf,ho',hf'=>by
  simp only[indepAll,Bool.and_eq_true]at h
  cases k with
  | zero=>omega
  | succ k=>
   cases m with
   | zero=>
    simp at ho hf;subst ho hf
    have:=ziU h.1 k o' f' (by simpa using ho') (by simpa using hf')
    rwa [show i+1+k=i+(k+1)by omega]at this
   | succ m=>
    have:=ziT h.2 m k o f o' f' (by omega) (by simpa using ho) (by simpa using hf) (by simpa using ho') (by simpa using hf')
    rwa [show i+1+k=i+(k+1)by omega,show i+1+m=i+(m+1)by omega]at this
theorem zd6{a b:List Nat}(h:apart a b=true){x:Nat}(ha:x ∈ a):x ∉ b:=fun hb=>by
 have:=List.all_eq_true.1 h x ha
 rw[hasN_iff.2 hb]at this
 cases this
theorem zma : ∀ {i:Nat} {l:List Oper},zql i l=true->∀ k o,l[k]?=some o->∀ e,e ∈ o.after.toList->Region.binds .any e=true->e.on<i+k
 | i,[],_,k,o,ho,e,he,hb=>by simp at ho
 | i,o1 :: l,h,k,o,ho,e,he,hb=>by
  simp only[zql,Bool.and_eq_true,List.all_eq_true]at h
  cases k with
  | zero=>
   simp at ho;subst ho
   have:=h.1 e he
   simp only[hb,Bool.not_true,Bool.or_false]at this
   simpa using this
  | succ k=>
   have:=zma h.2 k o (by simpa using ho) e he hb
   omega
end
theorem zh7(s:St)(t:Nat)(x:AV):(s.put (some t) x).get t=if t<s.env.length then x else s.get t:=by
 show(s.set t x).get t=_
 rw[zqr]
 by_cases h:t<s.env.length <;> simp[h]
theorem ziM{s:St}{t:Nat}(h:s.env.length<=t):s.get t=.undef:=by
 unfold St.get
 rw[List.getD,List.getElem?_eq_none h];rfl
theorem zmL{s s':St}{d:Option Nat}{x:AV}{t:Nat}(he:s.env.length=s'.env.length)(hd:d=some t):(s.put d x).get t=(s'.put d x).get t:=by
 subst hd
 rw[zh7,zh7,he]
 split
 . rfl
 . rename_i h
   rw[ziM (by omega),ziM (by omega)]
theorem zi6(s:St)(d:Option Nat)(x:AV):(s.put d x).env.length=s.env.length/\(s.put d x).heap=s.heap/\(s.put d x).gl=s.gl/\(s.put d x).np=s.np/\((s.put d x).df=s.df/\(s.put d x).dp=s.dp):=by
 cases d <;> simp[St.put,St.set]
theorem zJ1{s t:St}(h1:s.env.length=t.env.length)(h2:s.heap.length=t.heap.length)(h3 : ∀ i,s.get i=t.get i)(h4 : ∀ b,s.heap.getD b .dead=t.heap.getD b .dead)(h5:s.gl=t.gl)(h6:s.np=t.np)(h7:s.df=t.df)(h8:s.dp=t.dp):s=t:=by
 have e1:s.env=t.env:=zdu (d:=AV.undef) h1 fun i=>(h3 i:s.env.getD i .undef=t.env.getD i .undef)
 have e2:s.heap=t.heap:=zdu (d:=Blk.dead) h2 h4
 cases s;cases t;simp_all
theorem zAY{s:Nat->Option Nat}{n:Nat}{x:AV}{b:Nat}(h:x.mapB s n=.own b) : ∃ b',x=.own b':=by
 cases n with
 | zero=>simp[AV.mapB]at h
 | succ n=>cases x <;> first | exact⟨_,rfl⟩ | (simp[AV.mapB]at h;done) | (simp only[AV.mapB]at h;split at h <;> cases h)
theorem zAX{s:Nat->Option Nat}{n:Nat}{x:AV}{b sz i off:Nat}(h:x.mapB s n=.oel b sz i off) : ∃ b',x=.oel b' sz i off/\s b'=some b:=by
 cases n with
 | zero=>simp[AV.mapB]at h
 | succ n=>
  cases x <;> first | (simp[AV.mapB]at h;done) | skip
  all_goals
   simp only[AV.mapB]at h
   split at h <;> first | (cases h;done) | skip
  rename_i hj
  simp at h
  obtain ⟨rfl,rfl,rfl,rfl⟩:=h
  exact⟨_,rfl,hj⟩
theorem zsq(v:Value){b sz i off:Nat}:zlH v ≠ .oel b sz i off:=by
 unfold zlH;split <;> intro h <;> cases h
theorem ztC{st:St}{n:Nat}{ts ids:List Nat}{o:Oper}(h:zc5 (st.mask n ts ids) o=true):zc5 st o=true:=by
 unfold zc5 at h ⊢
 split at h <;> (try rename_i hop) <;> (try simp only[hop]) <;> (try rfl)
 . rename_i x _ _ _
   have own : ∀ {y:AV},(match y with | .own _=>true | _=>false)=true->∃ b,y=.own b:=fun {y} h=>by cases y <;> first | exact⟨_,rfl⟩ | cases h
   obtain ⟨b,hb⟩:=own h
   have : ∃ b',st.ev x=.own b':=by
    cases x with
    | tmp t=>
     have hb':(St.mask.maskE ts n 0 st.env).getD t .undef=.own b:=hb
     rw[(zdj ts n 0 st.env).2 t]at hb'
     split at hb'
     . exact zAY hb'
     . cases hb'
    | const v=>exact⟨b,hb⟩
    | global g=>exact⟨b,hb⟩
    | func f=>exact⟨b,hb⟩
   obtain ⟨b',hb'⟩:=this
   rw[hb']
 . rename_i ad
   have key : ∀ {y:AV} {hp:List Blk},(match y with | .oel b _ _ _=>(match hp[b]? with | some (.row _ _ (_ :: _) _ _)=>true | _=>false) | _=>false)=true->∃ b sz i off e t c cs hl,∃ xs:List t.T,y=.oel b sz i off/\hp[b]?=some (.row e t (c :: cs) hl xs):=fun {y hp} h=>by
    cases y with
    | oel b sz i off=>
     simp only at h
     split at h
     . rename_i e t c cs hl xs hq;exact⟨b,sz,i,off,e,t,c,cs,hl,xs,rfl,hq⟩
     . cases h
    | _=>cases h
   obtain ⟨b,sz,i,off,e,t,c,cs,hl,xs,h1,h2⟩:=key h
   have h3 : ∃ b',st.ev ad=.oel b' sz i off/\(b'<n->b=b')/\b'<n:=by
    cases ad with
    | tmp t=>
     have hb':(St.mask.maskE ts n 0 st.env).getD t .undef=.oel b sz i off:=h1
     rw[(zdj ts n 0 st.env).2 t]at hb'
     split at hb'
     . obtain ⟨b',q1,q2⟩:=zAX hb'
       obtain ⟨q3,q4⟩:=zkE q2
       exact⟨b',q1,fun _=>q3,q4⟩
     . cases hb'
    | const v=>exact absurd h1 (zsq v)
    | global g=>
     refine⟨b,h1,fun _=>rfl,?_⟩
     have:=(List.getElem?_eq_some_iff.1 h2).1
     have hl2:=(zeb ids n 0 (st.heap.take n)).1
     have:b<(St.mask.maskH ids n 0 (st.heap.take n)).length:=this
     rw[hl2]at this
     simp at this;omega
    | func f=>cases h1
   obtain ⟨b',h4,h5,h6⟩:=h3
   have h7:=h5 h6
   subst h7
   rw[h4]
   have h8:(St.mask.maskH ids n 0 (st.heap.take n)).getD b .dead=.row e t (c :: cs) hl xs:=by
    have:(St.mask.maskH ids n 0 (st.heap.take n))[b]?=some (.row e t (c :: cs) hl xs):=h2
    simp[List.getD,this]
   rw[(zeb ids n 0 (st.heap.take n)).2 b]at h8
   split at h8
   . have h9 : ∃ hl',(st.heap.take n).getD b .dead=.row e t (c :: cs) hl' xs:=by
      cases hq:(st.heap.take n).getD b .dead <;> rw[hq]at h8 <;> simp[Blk.mapB]at h8
      obtain ⟨rfl,rfl,rfl,_,h8⟩:=h8
      simp at h8;subst h8;exact⟨_,rfl⟩
     obtain ⟨hl',h9⟩:=h9
     have h10:st.heap[b]?=some (.row e t (c :: cs) hl' xs):=by
      have e0:(st.heap.take n).getD b .dead=st.heap.getD b .dead:=by simp[List.getD,List.getElem?_take,h6]
      rw[e0]at h9
      cases hq:st.heap[b]? with
      | none=>simp[List.getD,hq]at h9
      | some k=>simp[List.getD,hq]at h9;rw[h9]
     simp only[h10]
   . cases h8
 . cases h
section
variable {P:Program} {GL:List AV} {G:Gam} {B:Bs}
theorem Rel.pad{F:Nat->Prop}{β:Gh}{st:St}{a:Act}{w:World}(h:Rel B F β st a w)(n:Nat):Rel B F β { st with heap:=st.heap++List.replicate n .dead } a w:=by
 refine h.heapTo (zaO (fun _ h=>h) w) (.refl _) h.kept h.fo (fun _ h=>h) h.lo (fun b hb=>.inl hb) (by simp) ⟨h.heap.fb,fun b k hb=>?_,h.heap.lt,h.heap.sep,fun b hb=>by have:=h.heap.live b hb;simp;omega⟩
 by_cases hlt:b<st.heap.length
 . rw[List.getElem?_append_left hlt]at hb
   exact h.heap.blk b k hb
 . rw[List.getElem?_append_right (Nat.le_of_not_lt hlt),List.getElem?_replicate]at hb
   split at hb
   . simp at hb;subst hb;trivial
   . cases hb
structure Mid(B:Bs)(S:Nat->St)(D:Nat->Option Nat)(W:Nat->List Nat)(n:Nat)(L:Nat->Bool)(F:Nat->Prop)(β:Gh)(T:St)(a:Act)(w:World):Prop where
 rel:Rel B F β T a w
 env:T.env.length=(S 0).env.length
 heap:T.heap.length=(S n).heap.length
 gl:T.gl=(S 0).gl
 np:T.np=(S 0).np
 df:T.df=(S 0).df/\T.dp=(S 0).dp
 e : ∀ t,T.get t=zcb S D L t n
 h : ∀ b,T.heap.getD b .dead=zcc S W L b n
 live : ∀ b,β.l b->b<(S 0).heap.length ∨ ∃ i,i<n/\L i=true/\(S i).heap.length<=b/\b<(S (i+1)).heap.length
theorem zsD(hG:GOk P GL G){F:Nat->Prop}{β:Gh}{st:St}{a:Act}{w:World}(h:Rel B F β st a w)(hgl:st.gl=GL){o:Oper}{v:Value}{y0:Rsp}{x0:y0.R}(hq:zvR P G st o=some y0)(hx0:y0.o=some x0)(hv0:zCE (y0.to x0)=some v){K:Act->World->Prop}{Q:Exit->Act->World->Prop}
 (hK : ∀ w',Below w.heap.size w w'->K (a.put o.dst v) w'):o.wp P a w K Q:=by
 unfold zvR at hq
 split at hq
 . rename_i c args tys hop
   split at hq
   . rename_i f as ht
     split at hq
     . rename_i as1 has
       split at hq
       . rename_i y' hg
         split at hq
         rotate_left
         . cases hq
         cases hq
         have hglk:GlOk GL F w:=fun g=>by rw[← hgl];exact h.gl g
         have hent:Ent P F w β (a.eval c) (args.map a.eval) f as:=znN (h.ev c) (by simp) (fun j hj=>by
          have:=zfg h args.toList j hj
          have e:(args.map a.eval).getD j undef=(args.toList.map a.eval).getD j undef:=by rw[← zbF,Array.toList_map]
          rw[e];exact this) ht
         obtain ⟨m1,m2⟩:=zhd has
         have hent2:Ent P (znY F β) w Gh.nil (a.eval c) (args.map a.eval) f as1:=hent.map m1 (fun Y hY j hj=>zfO h.heap 9 (hY j (by omega)) (m2 j (by omega))) (fun hd=>hd.wide fun p hp=>.inl hp)
         obtain ⟨n,us,as',e1,e2,e3,e4⟩:=hent2.enter (hG _ _ _ _ hg x0 hx0)
         have hH:HOk (znY F β) w Gh.nil []:=⟨fun p hp=>by
          rcases hp with hp | ⟨κ,hp⟩
          . exact h.heap.fb p hp
          . exact h.heap.lt p κ hp,fun b k hb=>by simp at hb,fun p κ hp=>by simp[Gh.nil]at hp,fun p κ hp=>by simp[Gh.nil]at hp,fun b hb=>hb.elim⟩
         unfold Oper.wp
         have hrun:(execOp a.eval o).run P w=.ok (.enter n us.toArray) w:=by
          have:=e1 w
          simp only[Sem.run_bind]at this
          simp only[execOp,hop,resolve,Sem.run_bind]
          exact this
         rw[hrun,Oper.upon_enter]
         refine(e4 (znY F β) w Gh.nil us hH (hglk.imp fun p hp=>.inl hp) e2 e3).mono fun e w' ⟨z,hz,F',β',k1,_,_,_,_,_,_,k7⟩=>?_
         subst hz
         have hz:z=v:=by
          revert k7 hv0
          generalize y0.to x0=an
          intro hv0 k7
          unfold zCE at hv0
          split at hv0
          . cases hv0;exact V_v k7
          . cases hv0
         subst hz
         exact hK w' ⟨k1.os,k1.tape,k1.output,k1.size,fun k hk=>k1.block k hk (fun h=>h rfl)⟩
       . cases hq
     . cases hq
   . cases hq
 . cases hq
theorem zA7 (hG:GOk P GL G) {ops:Array Oper} {S:Nat->St} (hgl0:(S 0).gl=GL) (hnp0:(S 0).np<=(S 0).heap.length) {fs:List Fp} {n:Nat} (hn:ops.size=n) (hfl:fs.length=n)
 (hstep : ∀ i o,ops[i]?=some o->Step1 P G ops.toList (S i) o (fs.getD i ⟨[],[]⟩) (S (i+1))) (hS : ∀ i,n<=i->S (i+1)=S i)
 (hind : ∀ m k o f o' f',m<k->ops[m]?=some o->fs[m]?=some f->ops[k]?=some o'->fs[k]?=some f'->Nat.testBit ((Region.before ops).getD k 0) m=true ∨ ziS ops.toList o o' f f'=true)
 {L L':Nat->Bool} (hL : ∀ i,L i=true->i<n) (hdc : ∀ i,L i=true->∀ p,Nat.testBit ((Region.before ops).getD i 0) p=true->L p=true) {j:Nat} {o:Oper} (ho:ops[j]?=some o) (hj:L j=false)
 (hpre : ∀ e,e ∈ o.after.toList->Region.binds .any e=true->L e.on=true) (hL' : ∀ i,L' i=true ↔ L i=true ∨ i=j)
 {F:Nat->Prop} {β:Gh} {T:St} {a:Act} {w:World} (hM:Mid B S (fun i=>(ops[i]?).bind (·.dst)) (fun i=>(fs.getD i ⟨[],[]⟩).wr) n L F β T a w) {Q:Exit->Act->World->Prop} {K:Act->World->Prop}
 (hK : ∀ F' β' T' a' w',Mid B S (fun i=>(ops[i]?).bind (·.dst)) (fun i=>(fs.getD i ⟨[],[]⟩).wr) n L' F' β' T' a' w'->K a' w'):wpOp P ops Q j K a w:=by
 have hjn:j<n:=by
  have:=(Array.getElem?_eq_some_iff.1 ho).1;omega
 let D:Nat->Option Nat:=fun i=>(ops[i]?).bind (·.dst)
 let f:=fs.getD j ⟨[],[]⟩
 have hDj:D j=o.dst:=by show(ops[j]?).bind (·.dst)=_;rw[ho];rfl
 have hkeep:=fun i o' (ho':ops[i]?=some o')=>(hstep i o' ho').keeps
 have hkeepE : ∀ t i,D i ≠ some t->(S (i+1)).get t=(S i).get t:=fun t i hd=>by
  by_cases hi:i<n
  . have hio:ops[i]?=some ops[i]:=by simp[show i<ops.size by omega]
    refine(hkeep i _ hio).2.2.2.2.2.1 t fun e=>hd ?_
    show(ops[i]?).bind (·.dst)=_;rw[hio];exact e
  . rw[hS i (by omega)]
 have hkeepH : ∀ b i,b ∉ (fs.getD i ⟨[],[]⟩).wr->(S (i+1)).heap.getD b .dead=(S i).heap.getD b .dead:=fun b i hb=>by
  by_cases hi:i<n
  . have hio:ops[i]?=some ops[i]:=by simp[show i<ops.size by omega]
    exact(hkeep i _ hio).2.2.2.2.2.2 b hb
  . rw[hS i (by omega)]
 have hmono : ∀ i,(S i).heap.length<=(S (i+1)).heap.length:=fun i=>by
  by_cases hi:i<n
  . have hio:ops[i]?=some ops[i]:=by simp[show i<ops.size by omega]
    exact(hkeep i _ hio).2.2.2.2.1
  . rw[hS i (by omega)];exact Nat.le_refl _
 have hmonoL : ∀ i k,i<=k->(S i).heap.length<=(S k).heap.length:=fun i k hik=>by
  induction k with
  | zero=>rw[show i=0 by omega];exact Nat.le_refl _
  | succ k ih=>
   by_cases e:i=k+1
   . rw[e];exact Nat.le_refl _
   . exact Nat.le_trans (ih (by omega)) (hmono k)
 have hsame : ∀ i,(S i).env.length=(S 0).env.length/\(S i).gl=(S 0).gl/\(S i).np=(S 0).np/\((S i).df=(S 0).df/\(S i).dp=(S 0).dp):=fun i=>by
  induction i with
  | zero=>exact⟨rfl,rfl,rfl,rfl,rfl⟩
  | succ i ih=>
   by_cases hi:i<n
   . have hio:ops[i]?=some ops[i]:=by simp[show i<ops.size by omega]
     obtain ⟨k1,k2,k3,k4,_⟩:=hkeep i _ hio
     exact⟨k1.trans ih.1,k2.trans ih.2.1,k3.trans ih.2.2.1,k4.1.trans ih.2.2.2.1,k4.2.trans ih.2.2.2.2⟩
   . rw[hS i (by omega)];exact ih
 have hdcj : ∀ p,Nat.testBit ((Region.before ops).getD j 0) p=true->L p=true:=fun p hp=>by
  obtain ⟨o',ho',e,h1,h2,h3⟩:=zkG ops j p hp
  rw[ho]at ho';simp at ho';subst ho'
  have he:=hpre e h1 h2
  rcases h3 with rfl | h3
  . exact he
  . exact hdc _ he p h3
 have hfi : ∀ i,i<n->fs[i]?=some (fs.getD i ⟨[],[]⟩):=fun i hi=>by simp[List.getD,show i<fs.length by omega]
 have hoi : ∀ i,i<n->ops[i]?=some ops[i]! := fun i hi=>by simp[show i<ops.size by omega]
 -- an earlier one that this one hangs on has been carried out; of a later one that hangs on this one nothing has
 have early : ∀ i,i<j->(∀ o',ops[i]?=some o'->ziS ops.toList o' o (fs.getD i ⟨[],[]⟩) f=false)->L i=true:=fun i hi hno=>by
  have hio:=hoi i (by omega)
  rcases hind i j _ _ o f hi hio (hfi i (by omega)) ho (hfi j hjn)with h1 | h1
  . exact hdcj i h1
  . rw[hno _ hio]at h1;cases h1
 have late : ∀ i,j<i->i<n->L i=true->∀ o',ops[i]?=some o'->ziS ops.toList o o' f (fs.getD i ⟨[],[]⟩)=true:=fun i hi hin hLi o' ho'=>by
  rcases hind j i o f o' _ hi ho (hfi j hjn) ho' (hfi i hin)with h1 | h1
  . rw[hdc i hLi j h1]at hj;cases hj
  . exact h1
 have hDi : ∀ i t,D i=some t->∃ o',ops[i]?=some o'/\o'.dst=some t:=fun i t h=>by
  have h':(ops[i]?).bind (·.dst)=some t:=h
  cases hq:ops[i]? with
  | none=>rw[hq]at h';cases h'
  | some o'=>rw[hq]at h';exact⟨o',rfl,h'⟩
 have hWi : ∀ i b,b ∈ (fs.getD i ⟨[],[]⟩).wr->i<n:=fun i b hb=>by
  by_cases hi:i<n
  . exact hi
  . simp[List.getD,List.getElem?_eq_none (show fs.length<=i by omega)]at hb
 have ind1 : ∀ {o1 o2:Oper} {f1 f2:Fp},ziS ops.toList o1 o2 f1 f2=true->apart o1.dst.toList (zid ops.toList o2++o2.dst.toList)=true/\apart o2.dst.toList (zid ops.toList o1)=true/\apart f1.wr (f2.rd++f2.wr)=true/\apart f2.wr f1.rd=true:=fun h=>by
  simp only[ziS,Bool.and_eq_true]at h
  exact⟨h.1.1.1,h.1.1.2,h.1.2,h.2⟩
 have notT : ∀ {x:Bool},x ≠ true->x=false:=fun {x} h=>by cases x <;> simp_all
 have rslot : ∀ t,t ∈ zid ops.toList o->T.get t=(S j).get t:=fun t ht=>by
  rw[hM.e t]
  have h1:zcb S D L t n=zcb S D L t j:=zmq (Nat.le_of_lt hjn) fun i h1 h2 h3 h4=>by
   obtain ⟨o',ho',hd'⟩:=hDi i t h4
   have hij:j<i:=by
    rcases Nat.lt_or_ge j i with h | h
    . exact h
    . rw[show i=j by omega,hj]at h3;cases h3
   have:=(ind1 (late i hij h2 h3 o' ho')).2.1
   exact zd6 this (x:=t) (by simp[hd']) ht
  refine h1.trans (zj5 (hkeepE t) fun i hi hd=>early i hi fun o' ho'=>notT fun h=>?_)
  obtain ⟨o2,ho2,hd2⟩:=hDi i t hd
  rw[ho']at ho2;simp at ho2;subst ho2
  exact zd6 (ind1 h).1 (x:=t) (by simp[hd2]) (by simp[ht])
 have rblk : ∀ b,b ∈ f.rd->T.heap.getD b .dead=(S j).heap.getD b .dead:=fun b hb=>by
  rw[hM.h b]
  have h1:zcc S (fun i=>(fs.getD i ⟨[],[]⟩).wr) L b n=zcc S (fun i=>(fs.getD i ⟨[],[]⟩).wr) L b j:=zms (Nat.le_of_lt hjn) fun i h1 h2 h3 h4=>by
   have hij:j<i:=by
    rcases Nat.lt_or_ge j i with h | h
    . exact h
    . rw[show i=j by omega,hj]at h3;cases h3
   exact zd6 (ind1 (late i hij h2 h3 _ (hoi i h2))).2.2.2 (x:=b) h4 hb
  refine h1.trans (zj6 (hkeepH b) fun i hi hd=>early i hi fun o' ho'=>notT fun h=>?_)
  exact zd6 (ind1 h).2.2.1 (x:=b) hd (by simp[hb])
 have lateE : ∀ t,D j=some t->j<n->∀ i,j<i->i<n->L i=true->D i ≠ some t:=fun t hd _ i h1 h2 h3 h4=>by
  obtain ⟨o',ho',hd'⟩:=hDi i t h4
  rw[hDj]at hd
  exact zd6 (ind1 (late i h1 h2 h3 o' ho')).1 (x:=t) (by simp[hd]) (by simp[hd'])
 have lateH : ∀ b,b ∈ f.wr->j<n->∀ i,j<i->i<n->L i=true->b ∉ (fs.getD i ⟨[],[]⟩).wr:=fun b hb _ i h1 h2 h3 h4=>
  zd6 (ind1 (late i h1 h2 h3 _ (hoi i h2))).2.2.1 (x:=b) hb (List.mem_append.2 (.inr h4))
 have envTo : ∀ (T':St),(∀ t,T'.get t=if o.dst=some t then(S (j+1)).get t else T.get t)->∀ t,T'.get t=zcb S D L' t n:=fun T' h t=>by
  rw[h t,zh1 hL' (lateE t)]
  by_cases hd:o.dst=some t
  . rw[if_pos hd,if_pos ⟨by rw[hDj];exact hd,hjn⟩]
  . rw[if_neg hd,if_neg (fun q=>hd (by rw[← hDj];exact q.1)),hM.e t]
 have heapTo : ∀ (T':St),(∀ b,T'.heap.getD b .dead=if b ∈ f.wr then(S (j+1)).heap.getD b .dead else T.heap.getD b .dead)->∀ b,T'.heap.getD b .dead=zcc S (fun i=>(fs.getD i ⟨[],[]⟩).wr) L' b n:=fun T' h b=>by
  rw[h b,zh2 hL' (lateH b)]
  by_cases hd:b ∈ f.wr
  . rw[if_pos hd,if_pos ⟨hd,hjn⟩]
  . rw[if_neg hd,if_neg (fun q=>hd q.1),hM.h b]
 have liveTo : ∀ (β':Gh),(∀ b,β'.l b->β.l b ∨ ((S j).heap.length<=b/\b<(S (j+1)).heap.length))->∀ b,β'.l b->b<(S 0).heap.length ∨ ∃ i,i<n/\L' i=true/\(S i).heap.length<=b/\b<(S (i+1)).heap.length:=fun β' h b hb=>by
  rcases h b hb with h1 | h1
  . rcases hM.live b h1 with h2 | ⟨i,h2,h3,h4⟩
    . exact .inl h2
    . exact .inr ⟨i,h2,(hL' i).2 (.inl h3),h4⟩
  . exact .inr ⟨j,hjn,(hL' j).2 (.inr rfl),h1⟩
 unfold wpOp
 simp only[ho]
 have guardSlot : ∀ k want d,o.guard=some (k,want)->(ops.toList[k]?).bind (·.dst)=some d->T.get d=(S j).get d:=fun k want d hg hd=>rslot d (by
  unfold zid;rw[hg];simp only;rw[hd];simp)
 rcases hstep j o ho with ⟨⟨k,want,d,hg,hd,hs⟩,hf,hs1⟩ | ⟨hw,hdf,hor⟩
 . have hT:=guardSlot k want d hg hd
   have hnw:Region.wanted o (yielded ops a.tmps)=false:=by
    have hops:ops=ops.toList.toArray:=by simp
    rcases hs with hs | ⟨q,hs⟩
    . have:=zkF hM.rel hg hd (hT.trans hs)
      rw[hops,this];cases want <;> rfl
    . rw[hops];exact znV hM.rel hg hd (hT.trans hs)
   rw[hnw,if_neg (by simp)]
   obtain ⟨p1,p2,p3,p4,p5⟩:=zi6 T o.dst zey
   refine hK F β (T.put o.dst zey) _ _ ⟨zmT hM.rel o.dst,p1.trans hM.env,by rw[p2];exact hM.heap,p3.trans hM.gl,p4.trans hM.np,⟨p5.1.trans hM.df.1,p5.2.trans hM.df.2⟩,envTo _ fun t=>?_,heapTo _ fun b=>?_,liveTo β fun b hb=>.inl hb⟩
   . by_cases hdt:o.dst=some t
     . rw[if_pos hdt,hs1];exact zmL (hM.env.trans (hsame j).1.symm) hdt
     . rw[if_neg hdt];exact zcE T hdt _
   . rw[p2]
     have:f.wr=[]:=by show(fs.getD j ⟨[],[]⟩).wr=[];rw[hf]
     rw[this,if_neg (by simp)]
 . have hyw : Region.wanted o (yielded ops a.tmps)=true:=by
    have hops:ops=ops.toList.toArray:=by simp
    rcases hw with hw | ⟨k,want,d,hg,hd,hs⟩
    . simp[Region.wanted,hw]
    . have:=zkF hM.rel hg hd ((guardSlot k want d hg hd).trans hs)
      rw[hops,this];cases want <;> rfl
   rw[hyw,if_pos rfl]
   left
   have hrd:f.rd=zbi (S j) o:=by
    show(fs.getD j ⟨[],[]⟩).rd=_
    rcases hor with ⟨_,_,_,_,_,_,hf,_⟩ | ⟨_,_,⟨_,_,hf,_⟩ | ⟨_,hf,_⟩⟩ <;> rw[hf]
   have hqN:(S j).heap.length<=T.heap.length:=by rw[hM.heap];exact hmonoL j n (Nat.le_of_lt hjn)
   have hmask:T.mask (S j).heap.length (zdn o) (zbi (S j) o)=(S j).mask (S j).heap.length (zdn o) (zbi (S j) o):=
    zDQ (hM.env.trans (hsame j).1.symm) (hM.gl.trans (hsame j).2.1.symm) (hM.df.1.trans (hsame j).2.2.2.1.symm) (hM.df.2.trans (hsame j).2.2.2.2.symm) hqN (Nat.le_refl _) (fun t ht=>rslot t (by unfold zid;simp[ht])) (fun b hb _=>rblk b (by rw[hrd];exact hb))
   have hmini:=hM.rel.mask hqN (zdn o) (zbi (S j) o)
   have hgl':(T.mask (S j).heap.length (zdn o) (zbi (S j) o)).gl=GL:=hM.gl.trans hgl0
   have hput : ∀ (T':St) (x:AV),(∀ t,T'.get t=(T.put o.dst x).get t)->(S (j+1)).get=((S j).put o.dst x).get->∀ t,T'.get t=if o.dst=some t then(S (j+1)).get t else T.get t:=fun T' x h1 h2 t=>by
    rw[h1 t,h2]
    by_cases hdt:o.dst=some t
    . rw[if_pos hdt];exact zmL (hM.env.trans (hsame j).1.symm) hdt
    . rw[if_neg hdt];exact zcE T hdt _
   rcases hor with ⟨y0,x0,v,hqc,hx0,hv0,hf,hs1⟩ | ⟨m,hm,hcase⟩
   . -- a call that only reads
     rw[← hmask]at hqc
     refine zsD hG hmini hgl' hqc hx0 hv0 fun w' hb=>?_
     obtain ⟨p1,p2,p3,p4,p5⟩:=zi6 T o.dst (.v v)
     refine hK F β (T.put o.dst (.v v)) _ _ ⟨(hM.rel.later hb).put o.dst (.v v),p1.trans hM.env,by rw[p2];exact hM.heap,p3.trans hM.gl,p4.trans hM.np,⟨p5.1.trans hM.df.1,p5.2.trans hM.df.2⟩,envTo _ (hput _ (.v v) (fun t=>rfl) (by rw[hs1])),heapTo _ fun b=>?_,liveTo β fun b hb=>.inl hb⟩
     rw[p2]
     have:f.wr=[]:=by show(fs.getD j ⟨[],[]⟩).wr=[];rw[hf]
     rw[this,if_neg (by simp)]
   rw[← hmask]at hm
   rcases hcase with ⟨hwr,hlen,hf,hs1⟩ | ⟨hwr,hf,hs1⟩
   . -- it zc5
     refine zfG hG hmini hgl' hm fun s' a' w' F' β' hR hA hput' hs'=>?_
     cases hs'
     obtain ⟨u,rfl⟩:=hput' hdf
     have hm1:(S (j+1)).heap.length=m.heap.length:=by rw[hs1];exact(zfM (zbi (S j) o) 0 (S j).heap m.heap hlen).1
     have hmN:m.heap.length<=T.heap.length:=by rw[hM.heap,← hm1];exact hmonoL (j+1) n hjn
     have hnp:m.np=(S j).heap.length:=hA.2.1
     let In:Nat->Bool:=fun b=>decide ((b ∈ zbi (S j) o/\b<(S j).heap.length) ∨ ((S j).heap.length<=b/\b<m.heap.length))
     let hp:List Blk:=(List.range T.heap.length).map fun b=>if In b then m.heap.getD b .dead else T.heap.getD b .dead
     have hpg : ∀ b,hp.getD b .dead=if In b then m.heap.getD b .dead else T.heap.getD b .dead:=fun b=>by
      by_cases hb:b<T.heap.length
      . simp[hp,List.getD,hb]
      . have h1:hp.getD b .dead=.dead:=by simp[hp,List.getD,hb]
        have h2:T.heap.getD b .dead=.dead:=by simp[List.getD,List.getElem?_eq_none (Nat.le_of_not_lt hb)]
        have h3:m.heap.getD b .dead=.dead:=by simp[List.getD,List.getElem?_eq_none (show m.heap.length<=b by omega)]
        rw[h1,h2,h3];simp
     obtain ⟨F2,β2,hR2,hl2⟩:=hM.rel.merge (ids:=zbi (S j) o) (by rw[hM.np];exact Nat.le_trans hnp0 (hmonoL 0 j (Nat.zero_le _))) hR hnp hlen hmN (fun b h1 h2 hb=>by
      rcases hM.live b hb with h3 | ⟨i,h3,h4,h5,h6⟩
      . have:=hmonoL 0 j (Nat.zero_le _);omega
      . rcases Nat.lt_trichotomy i j with h7 | h7 | h7
        . have:=hmonoL (i+1) j h7;omega
        . rw[h7,hj]at h4;cases h4
        . have:=hmonoL (j+1) i h7;omega) (hp:=hp) (by simp[hp]) (fun b hb=>by
      rw[hpg b,if_pos (by simpa [In]using hb)]) (fun b hb=>by
      rw[hpg b,if_neg (by simpa [In]using hb)])
     obtain ⟨p1,p2,p3,p4,p5⟩:=zi6 T o.dst (m.get (o.dst.getD 0))
     have hwrm:f.wr=zbi (S j) o++news (S j).heap.length m.heap.length:=by show(fs.getD j ⟨[],[]⟩).wr=_;rw[hf]
     refine hK F2 β2 _ _ _ ⟨hR2,p1.trans hM.env,by simp[hp,hM.heap],p3.trans hM.gl,p4.trans hM.np,⟨p5.1.trans hM.df.1,p5.2.trans hM.df.2⟩,envTo _ (hput _ (m.get (o.dst.getD 0)) (fun t=>rfl) (by rw[hs1];rfl)),heapTo _ fun b=>?_,liveTo β2 fun b hb=>?_⟩
     . show hp.getD b .dead=_
       rw[hpg b]
       have hmg:=(zfM (zbi (S j) o) 0 (S j).heap m.heap hlen).2 b
       rw[Nat.zero_add]at hmg
       have hs1h:(S (j+1)).heap.getD b .dead=(zeY (zbi (S j) o) 0 (S j).heap m.heap).getD b .dead:=by rw[hs1]
       by_cases hbw:b ∈ f.wr
       . rw [if_pos hbw,hs1h,hmg]
         rw[hwrm,List.mem_append,ziY]at hbw
         have hnot : ¬ (b<(S j).heap.length/\¬ b ∈ zbi (S j) o):=by
          rintro ⟨h1,h2⟩
          rcases hbw with h3 | h3
          . exact h2 h3
          . omega
         rw[if_neg hnot]
         by_cases hin:In b=true
         . rw[if_pos hin]
         . rw[if_neg hin]
           have hin' : ¬ ((b ∈ zbi (S j) o/\b<(S j).heap.length) ∨ ((S j).heap.length<=b/\b<m.heap.length)):=by simpa [In]using hin
           have hlk:b ∈ zbi (S j) o:=by
            rcases hbw with h3 | h3
            . exact h3
            . exact absurd (.inr h3) hin'
           have hge:(S j).heap.length<=b:=by
            rcases Nat.lt_or_ge b (S j).heap.length with h | h
            . exact absurd (.inl ⟨hlk,h⟩) hin'
            . exact h
           have hge2:m.heap.length<=b:=by
            rcases Nat.lt_or_ge b m.heap.length with h | h
            . exact absurd (.inr ⟨hge,h⟩) hin'
            . exact h
           rw[rblk b (by rw[hrd];exact hlk)]
           simp[List.getD,List.getElem?_eq_none hge,List.getElem?_eq_none hge2]
       . rw[if_neg hbw]
         rw[hwrm,List.mem_append,ziY]at hbw
         have hin : ¬ In b=true:=by
          simp only[In,decide_eq_true_eq]
          rintro (h1 | h1)
          . exact hbw (.inl h1.1)
          . exact hbw (.inr h1)
         rw[if_neg hin]
     . rcases hl2 b hb with h1 | h1
       . exact .inl h1
       . rw[hm1];exact .inr h1
   . -- it zc5 nothing
     have hwr':zc5 (T.mask (S j).heap.length (zdn o) (zbi (S j) o)) o=false:=by
      cases hq:zc5 (T.mask (S j).heap.length (zdn o) (zbi (S j) o)) o with
      | false=>rfl
      | true=>rw[hmask]at hq;rw[ztC hq]at hwr;cases hwr
     rw[zuf P G hwr' hdf]at hm
     obtain ⟨x,⟨y,hy,hrun⟩,hmx⟩:=zoz hmini hm
     simp at hmx
     refine zaS hrun ?_
     have hyy:V F w β x y:=hy.mono (zaO (fun _ h=>h) w) (show(β.mask (S j).heap.length (zbi (S j) o)).Le β from fun b hb=>⟨hb.1,rfl,rfl⟩)
     obtain ⟨p1,p2,p3,p4,p5⟩:=zi6 T o.dst x
     refine hK F β (T.put o.dst x) _ _ ⟨hM.rel.put o.dst hyy,p1.trans hM.env,by rw[p2];exact hM.heap,p3.trans hM.gl,p4.trans hM.np,⟨p5.1.trans hM.df.1,p5.2.trans hM.df.2⟩,envTo _ fun t=>?_,heapTo _ fun b=>?_,liveTo β fun b hb=>.inl hb⟩
     . by_cases hdt:o.dst=some t
       . rw[if_pos hdt,hs1]
         have hmg:m.get (o.dst.getD 0)=if t<T.env.length then x else .undef:=by
          rw[← hmx,hdt]
          show((T.mask _ _ _).put (some t) x).get t=_
          rw[zh7]
          have hl:(T.mask (S j).heap.length (zdn o) (zbi (S j) o)).env.length=T.env.length:=(zdj _ _ 0 _).1
          rw[hl]
          split
          . rfl
          . rename_i h;exact ziM (by rw[hl];omega)
         have he:=hM.env.trans (hsame j).1.symm
         by_cases hlt:t<T.env.length
         . have:m.get (o.dst.getD 0)=x:=by rw[hmg,if_pos hlt]
           rw[this];exact zmL he hdt
         . rw[ziM (by rw[p1];omega),ziM (by rw[(zi6 (S j) o.dst _).1];omega)]
       . rw[if_neg hdt];exact zcE T hdt _
     . rw[p2]
       have:f.wr=[]:=by show(fs.getD j ⟨[],[]⟩).wr=[];rw[hf]
       rw[this,if_neg (by simp)]
end
end Go.Proofs.YtgajeebphoiphaaGreatDoor
end
