import Derived.Test.YtgajeebphoiphaaGreatDoorE
import Derived.Laws.Rows
import Derived.Laws.Slices
import Derived.OwnWalk
import Derived.Below
import Derived.RowKit3
set_option linter.unusedVariables false
set_option linter.unusedSimpArgs false
noncomputable section
namespace Go.Proofs.YtgajeebphoiphaaGreatDoor
open Go.RowKit
structure Keeps(M:Nat->Prop)(w w':World):Prop where
 os:w'.os=w.os
 tape:w'.tape=w.tape
 output:w'.output=w.output
 size:w.heap.size<=w'.heap.size
 block : ∀ p,p<w.heap.size->¬ M p->w'.heap[p]?=w.heap[p]?
theorem Keeps.refl(M:Nat->Prop)(w:World):Keeps M w w:=⟨rfl,rfl,rfl,Nat.le_refl _,fun _ _ _=>rfl⟩
theorem Keeps.trans{M M' M2:Nat->Prop}{a b c:World}(h:Keeps M a b)(k:Keeps M' b c)(h1 : ∀ p,M p->M2 p)(h2 : ∀ p,M' p->M2 p ∨ a.heap.size<=p):Keeps M2 a c:=
 ⟨k.os.trans h.os,k.tape.trans h.tape,k.output.trans h.output,Nat.le_trans h.size k.size,fun p hp hn=>by
  rw[k.block p (Nat.lt_of_lt_of_le hp h.size) (fun hm=>by rcases h2 p hm with h2 | h2;exact hn h2;omega)]
  exact h.block p hp (fun hm=>hn (h1 p hm))⟩
theorem Keeps.below{w w':World}(h:Keeps (fun _=>False) w w'):Below w.heap.size w w':=⟨h.os,h.tape,h.output,h.size,fun k hk=>h.block k hk (fun h=>h)⟩
theorem Keeps.of_below{M:Nat->Prop}{w w':World}(h:Below w.heap.size w w'):Keeps M w w':=⟨h.os,h.tape,h.output,h.size,fun k hk _=>h.block k hk⟩
structure Ext(F F':Nat->Prop)(w w':World):Prop where
 size:w.heap.size<=w'.heap.size
 block : ∀ b,F b->b<w.heap.size->F' b/\w'.heap[b]?=w.heap[b]?
theorem Ext.below{F:Nat->Prop}{w w':World}(h:Below w.heap.size w w'):Ext F F w w':=⟨h.size,fun b hF hb=>⟨hF,h.block b hb⟩⟩
theorem zaO{F F1:Nat->Prop}(hs : ∀ k,F k->F1 k)(w:World):Ext F F1 w w:=⟨Nat.le_refl _,fun k hF _=>⟨hs k hF,rfl⟩⟩
structure Gh where
 b:Nat->Nat
 v:Nat->Value
 o:Nat->Option (Nat × Option (Nat × Nat))
 l:Nat->Prop
def Gh.nil:Gh:=⟨fun _=>0,fun _=>undef,fun _=>none,fun _=>False⟩
def Gh.Le(β β':Gh):Prop:=∀ b,β.l b->β'.l b/\β'.b b=β.b b/\β'.v b=β.v b
theorem Gh.Le.refl(β:Gh):β.Le β:=fun _ h=>⟨h,rfl,rfl⟩
theorem Gh.Le.trans{a b c:Gh}(h:a.Le b)(k:b.Le c):a.Le c:=fun x hx=>by
 obtain ⟨h1,h2,h3⟩:=h x hx
 obtain ⟨k1,k2,k3⟩:=k x h1
 exact⟨k1,k2.trans h2,k3.trans h3⟩
theorem Gh.Le.nil(β:Gh):Gh.nil.Le β:=fun _ h=>h.elim
inductive V(F:Nat->Prop)(w:World)(β:Gh):AV->Value->Prop
 | undef (y:Value):V F w β .undef y
 | v (x:Value):V F w β (.v x) x
 | agg (cs:List AV) (ys:Array Value) (hl:ys.size=cs.length) (h : ∀ j,j<cs.length->V F w β (cs.getD j .undef) (ys.getD j undef)):V F w β (.agg cs) (.agg ys)
 | tup (cs:List AV) (ys:Array Value) (hl:ys.size=cs.length) (h : ∀ j,j<cs.length->V F w β (cs.getD j .undef) (ys.getD j undef)):V F w β (.tup cs) (.tuple ys)
 | sl0 (t:Ty) (A:Option Addr) (c:Nat):V F w β (.sl t []) (.slice A 0 c)
 | sl (t:Ty) (xs:List t.T) (b o c:Nat) (Y:Nat->Nat->Value) (hF:F b) (hb:b<w.heap.size) (hl:xs.length<=140737488355328) (hcap:xs.length<=c)
  (hc : ∀ i j,i<xs.length->j<t.sz->w.cell? ⟨b,o+(i*t.sz+j),none⟩=some (Y i j))
  (h : ∀ i j,i<xs.length->j<t.sz->V F w β ((t.enc (nth xs i)).getD j .undef) (Y i j)):V F w β (.sl t xs) (.slice (some ⟨b,o,none⟩) xs.length c)
 | op0 (t:Ty):V F w β (.op t none) (.pointer none)
 | op (t:Ty) (x:t.T) (b o:Nat) (Y:Nat->Value) (hF:F b) (hb:b<w.heap.size) (hc : ∀ j,j<t.sz->w.cell? ⟨b,o+j,none⟩=some (Y j))
  (h : ∀ j,j<t.sz->V F w β ((t.enc x).getD j .undef) (Y j)):V F w β (.op t (some x)) (.pointer (some ⟨b,o,none⟩))
 | el (t:Ty) (xs:List t.T) (i off b o:Nat) (Y:Nat->Value) (hi:i<xs.length) (hF:F b) (hb:b<w.heap.size) (hc : ∀ j,j<t.sz->w.cell? ⟨b,o+j,none⟩=some (Y j))
  (h : ∀ j,j<t.sz->V F w β ((t.enc (nth xs i)).getD j .undef) (Y j)):V F w β (.el t xs i off) (.pointer (some ⟨b,o+off,none⟩))
 | ref (b off:Nat) (hb:β.l b):V F w β (.ref b off) (.pointer (some ⟨β.b b,off,none⟩))
 | own (b:Nat) (hb:β.l b) (A:Option Addr) (n c:Nat) (hv:β.v b=.slice A n c):V F w β (.own b) (β.v b)
 | oel (b sz i off p n c:Nat) (hb:β.l b) (hv:β.v b=.slice (some ⟨p,0,none⟩) n c) (hi:i<n):V F w β (.oel b sz i off) (.pointer (some ⟨p,i*sz+off,none⟩))
 | rex (b o0:Nat) (t:Ty) (m i d:Nat) (hb:β.l b) (hi:i<m):V F w β (.rex b o0 t m i d) (.pointer (some ⟨β.b b,o0+i*t.sz+d,none⟩))
 | vw (b sz o n c':Nat) (A:Option Addr) (hb:β.l b) (hc:n<=c') (hv:0<n->∃ p N c,β.v b=.slice (some ⟨p,0,none⟩) N c/\o+n<=N/\A=some ⟨p,o*sz,none⟩):V F w β (.vw b sz o n) (.slice A n c')
 | fn (f:Fn) (as cs:List AV) (ya yc:Array Value) (hla:ya.size=as.length) (hlc:yc.size=cs.length) (ha : ∀ j,j<as.length->V F w β (as.getD j .undef) (ya.getD j undef))
  (hc : ∀ j,j<cs.length->V F w β (cs.getD j .undef) (yc.getD j undef)):V F w β (.fn f as cs) (.func f ya yc)
 | clo (c:Clo) (y:Value) (h:V F w β c.out y):V F w β (.clo c) y
 | ifc (t:TypeId) (x:AV) (y:Value) (h:V F w β x y):V F w β (.ifc t x) (.iface t y)
 | any (y:Value) (h:y.oneCell'=true):V F w β .any y
 | mp0 (k v:Ty):V F w β (.mp k v []) (.map none)
 | mp (k v:Ty) (es:List (k.T × v.T)) (b:Nat) (Es:Array MapEntry) (clock:Nat) (hF:F b) (hb:b<w.heap.size) (hc:w.heap[b]?=some (.map Es clock)) (hl:Es.size=es.length)
  (hk : ∀ i,i<es.length->V F w β (zbU k (es.getD i default).1) (Es.getD i default).key) (hv : ∀ i,i<es.length->V F w β (zbU v (es.getD i default).2) (Es.getD i default).val):V F w β (.mp k v es) (.map (some b))
 | om (b:Nat) (hb:β.l b):V F w β (.om b) (.map (some (β.b b)))
abbrev D(F:Nat->Prop)(w:World)(x:AV)(y:Value):Prop:=V F w Gh.nil x y
theorem V.mono{F F':Nat->Prop}{w w':World}{β β':Gh}(hE:Ext F F' w w')(hβ:β.Le β'){x:AV}{y:Value}(h:V F w β x y):V F' w' β' x y:=by
 induction h with
 | undef y=>exact .undef y
 | v x=>exact .v x
 | agg cs ys hl _ ih=>exact .agg cs ys hl ih
 | tup cs ys hl _ ih=>exact .tup cs ys hl ih
 | sl0 t A c=>exact .sl0 t A c
 | sl t xs b o c Y hF hb hl hcap hc _ ih=>
  obtain ⟨h1,h2⟩:=hE.block b hF hb
  exact .sl t xs b o c Y h1 (Nat.lt_of_lt_of_le hb hE.size) hl hcap (fun i j hi hj=>(World.cell?_of_block (w:=w) h2).trans (hc i j hi hj)) ih
 | op0 t=>exact .op0 t
 | op t x b o Y hF hb hc _ ih=>
  obtain ⟨h1,h2⟩:=hE.block b hF hb
  exact .op t x b o Y h1 (Nat.lt_of_lt_of_le hb hE.size) (fun j hj=>(World.cell?_of_block (w:=w) h2).trans (hc j hj)) ih
 | el t xs i off b o Y hi hF hb hc _ ih=>
  obtain ⟨h1,h2⟩:=hE.block b hF hb
  exact .el t xs i off b o Y hi h1 (Nat.lt_of_lt_of_le hb hE.size) (fun j hj=>(World.cell?_of_block (w:=w) h2).trans (hc j hj)) ih
 | ref b off hb=>obtain ⟨h1,h2,_⟩:=hβ b hb;rw[← h2];exact .ref b off h1
 | own b hb A n c hv=>obtain ⟨h1,_,h2⟩:=hβ b hb;rw[← h2];exact .own b h1 A n c (h2.trans hv)
 | oel b sz i off p n c hb hv hi=>obtain ⟨h1,_,h2⟩:=hβ b hb;exact .oel b sz i off p n c h1 (h2.trans hv) hi
 | rex b o0 t m i d hb hi=>obtain ⟨h1,h2,_⟩:=hβ b hb;rw[← h2];exact .rex b o0 t m i d h1 hi
 | vw b sz o n c' A hb hc hv=>obtain ⟨h1,_,h2⟩:=hβ b hb;exact .vw b sz o n c' A h1 hc fun h0=>(by rw[h2];exact hv h0)
 | fn f as cs ya yc hla hlc _ _ iha ihc=>exact .fn f as cs ya yc hla hlc iha ihc
 | clo c y _ ih=>exact .clo c y ih
 | ifc t x y _ ih=>exact .ifc t x y ih
 | any y h=>exact .any y h
 | mp0 k v=>exact .mp0 k v
 | mp k v es b Es clock hF hb hc hl _ _ ihk ihv=>
  obtain ⟨h1,h2⟩:=hE.block b hF hb
  exact .mp k v es b Es clock h1 (Nat.lt_of_lt_of_le hb hE.size) (h2.trans hc) hl ihk ihv
 | om b hb=>obtain ⟨h1,h2,_⟩:=hβ b hb;rw[← h2];exact .om b h1
theorem V.wide{F F':Nat->Prop}{w:World}{β:Gh}(hs : ∀ k,F k->F' k){x:AV}{y:Value}(h:V F w β x y):V F' w β x y:=h.mono (zaO hs w) (.refl _)
theorem V.ofD{F:Nat->Prop}{w:World}{β:Gh}{x:AV}{y:Value}(h:D F w x y):V F w β x y:=h.mono (zaO (fun _ h=>h) w) (.nil _)
theorem D.mono{F F':Nat->Prop}{w w':World}(hE:Ext F F' w w'){x:AV}{y:Value}(h:D F w x y):D F' w' x y:=V.mono hE (.refl _) h
theorem zaj(t:Ty)(x:t.T):(t.enc x).length=t.sz:=by cases t <;> rfl
inductive zc7:AV->Prop
 | undef:zc7 .undef
 | v (x:Value):zc7 (.v x)
 | agg (cs:List AV) (h : ∀ j,j<cs.length->zc7 (cs.getD j .undef)):zc7 (.agg cs)
 | tup (cs:List AV) (h : ∀ j,j<cs.length->zc7 (cs.getD j .undef)):zc7 (.tup cs)
 | sl (t:Ty) (xs:List t.T):zc7 (.sl t xs)
 | op (t:Ty) (x:Option t.T):zc7 (.op t x)
 | el (t:Ty) (xs:List t.T) (i off:Nat):zc7 (.el t xs i off)
 | fn (f:Fn) (as cs:List AV) (ha : ∀ j,j<as.length->zc7 (as.getD j .undef)) (hc : ∀ j,j<cs.length->zc7 (cs.getD j .undef)):zc7 (.fn f as cs)
 | clo (c:Clo):zc7 (.clo c)
 | ifc (t:TypeId) (x:AV) (h:zc7 x):zc7 (.ifc t x)
 | mp (k v:Ty) (es:List (k.T × v.T)):zc7 (.mp k v es)
 | any:zc7 .any
theorem zkc : ∀ j,j<([]:List AV).length->zc7 (([]:List AV).getD j .undef):=fun j hj=>by simp at hj
theorem zh6{x:AV}{r:List AV}(h1:zc7 x)(h2 : ∀ j,j<r.length->zc7 (r.getD j .undef)) : ∀ j,j<(x :: r).length->zc7 ((x :: r).getD j .undef):=fun j hj=>by
 cases j with
 | zero=>exact h1
 | succ j=>exact h2 j (by simpa using hj)
theorem ziF(t:Ty)(x:t.T) : ∀ j,j<(t.enc x).length->zc7 ((t.enc x).getD j .undef):=by
 cases t <;> (show ∀ j,j<(List.length (_ :: _))->_) <;> repeat (first | exact zkc | refine zh6 (by first | exact .v _ | exact .sl _ _ | exact .op _ _ | exact .clo _ | exact .mp _ _ _ | exact .any) ?_)
theorem zst(c:Clo):zc7 c.out:=by
 cases c <;> first | exact .v _ | (refine .fn _ _ _ ?_ ?_ <;> repeat (first | exact zkc | refine zh6 (by first | exact .v _ | exact .sl _ _ | exact .op _ _ | exact .clo _ | exact .mp _ _ _ | exact .any | (refine .agg _ ?_;repeat (first | exact zkc | refine zh6 (by first | exact .v _ | exact .sl _ _ | exact .op _ _ | exact .clo _ | exact .mp _ _ _ | exact .any) ?_))) ?_))
theorem zd7(t:Ty)(x:t.T):zc7 (zbU t x):=by
 have h:=ziF t x
 unfold zbU
 split
 . exact .agg _ h
 . cases hc:t.enc x with
   | nil=>exact .undef
   | cons y r=>rw[hc]at h;exact h 0 (by simp)
theorem V.toD{F:Nat->Prop}{w:World}{β:Gh}{x:AV}{y:Value}(h:V F w β x y):zc7 x->D F w x y:=by
 induction h with
 | undef y=>intro _;exact .undef y
 | v x=>intro _;exact .v x
 | agg cs ys hl _ ih=>intro hp;cases hp with | agg _ hp=>exact .agg cs ys hl fun j hj=>ih j hj (hp j hj)
 | tup cs ys hl _ ih=>intro hp;cases hp with | tup _ hp=>exact .tup cs ys hl fun j hj=>ih j hj (hp j hj)
 | sl0 t A c=>intro _;exact .sl0 t A c
 | sl t xs b o c Y hF hb hl hcap hc _ ih=>intro _;exact .sl t xs b o c Y hF hb hl hcap hc fun i j hi hj=>ih i j hi hj (ziF t _ j (by rw[zaj];exact hj))
 | op0 t=>intro _;exact .op0 t
 | op t x b o Y hF hb hc _ ih=>intro _;exact .op t x b o Y hF hb hc fun j hj=>ih j hj (ziF t _ j (by rw[zaj];exact hj))
 | el t xs i off b o Y hi hF hb hc _ ih=>intro _;exact .el t xs i off b o Y hi hF hb hc fun j hj=>ih j hj (ziF t _ j (by rw[zaj];exact hj))
 | ref b off hb=>intro hp;cases hp
 | own b hb A n c hv=>intro hp;cases hp
 | oel b sz i off p n c hb hv hi=>intro hp;cases hp
 | rex b o0 t m i d hb hi=>intro hp;cases hp
 | vw b sz o n c' A hb hc hv=>intro hp;cases hp
 | fn f as cs ya yc hla hlc _ _ iha ihc=>intro hp;cases hp with | fn _ _ _ ha hc=>exact .fn f as cs ya yc hla hlc (fun j hj=>iha j hj (ha j hj)) (fun j hj=>ihc j hj (hc j hj))
 | clo c y _ ih=>intro _;exact .clo c y (ih (zst c))
 | ifc t x y _ ih=>intro hp;cases hp with | ifc _ _ hp=>exact .ifc t x y (ih hp)
 | any y h=>intro _;exact .any y h
 | mp0 k v=>intro _;exact .mp0 k v
 | mp k v es b Es clock hF hb hc hl _ _ ihk ihv=>intro _;exact .mp k v es b Es clock hF hb hc hl (fun i hi=>ihk i hi (zd7 _ _)) (fun i hi=>ihv i hi (zd7 _ _))
 | om b hb=>intro hp;cases hp
def zEz(F:Nat->Prop)(w:World)(β:Gh)(b i j:Nat)(e:TypeId)(x:AV)(v:Value):Prop:=
 ∃ (t:Ty) (ys:List t.T) (Vs:List Value),x=.sl t ys/\w.ownsRow 0 e t.sz v ys.length Vs/\ys.length<=140737488355328/\(∀ p,v.ownBlock=some p->β.o p=some (b,some (i,j)))/\
  ∀ k m,k<ys.length->m<t.sz->D F w ((t.enc (nth ys k)).getD m .undef) (Vs.getD (k*t.sz+m) undef)
def OutOk(β:Gh)(hole:zbI)(i j:Nat)(v:Value):Prop:=∀ n,(i,j,some n) ∈ hole->β.l n/\v=β.v n
def OutAt(hole:zbI)(i j:Nat):Prop:=(∃ n,(i,j,some n) ∈ hole) ∨ ∃ k,(k,j,none) ∈ hole/\i<k
theorem zoT{i j:Nat}(h:OutAt [] i j):False:=by rcases h with ⟨_,h⟩ | ⟨_,h,_⟩ <;> cases h
theorem zx1{i j i' j' n:Nat}(h:OutAt [(i',j',some n)] i j):i=i'/\j=j':=by
 rcases h with ⟨m,h⟩ | ⟨k,h,_⟩
 . simp at h;exact⟨h.1,h.2.1⟩
 . simp at h
theorem OutAt.imp{hole hole':zbI}{i j:Nat}(h:OutAt hole i j)(hi : ∀ p ∈ hole,p.2.1=j->p ∈ hole'):OutAt hole' i j:=by
 rcases h with ⟨n,h⟩ | ⟨k,h,hk⟩
 . exact .inl ⟨n,hi _ h rfl⟩
 . exact .inr ⟨k,hi _ h rfl,hk⟩
theorem OutAt.mapB{hole:zbI}{i j:Nat}{s:Nat->Option Nat}(h:OutAt hole i j):OutAt (hole.map (ziQ s)) i j:=by
 rcases h with ⟨n,h⟩ | ⟨k,h,hk⟩
 . have:ziQ s (i,j,some n) ∈ hole.map (ziQ s):=List.mem_map.2 ⟨_,h,rfl⟩
   simp only[ziQ]at this
   cases hs:s n with
   | none=>rw[hs]at this;exact .inr ⟨i+1,this,Nat.lt_succ_self i⟩
   | some m=>rw[hs]at this;exact .inl ⟨m,this⟩
 . exact .inr ⟨k,List.mem_map.2 ⟨_,h,rfl⟩,hk⟩
def CellOk(F:Nat->Prop)(w:World)(β:Gh)(b:Nat)(cols:List (Nat × TypeId))(hole:zbI)(i j:Nat)(x:AV)(v:Value):Prop:=
 match zaA cols j with
 | none=>D F w x v
 | some e=>OutOk β hole i j v/\(OutAt hole i j ∨ zEz F w β b i j e x v)
def BlkOk(F:Nat->Prop)(w:World)(β:Gh)(b:Nat):Blk->Prop
 | .cells e cs=>∃ ys T,w.heap[β.b b]?=some (.cells ys T (0,0))/\ys.size=cs.length/\β.o (β.b b)=some (b,none)/\∀ j,j<cs.length->V F w β (cs.getD j .undef) (ys.getD j undef)
 | .row e t cols hole xs=>∃ Vs:List Value,w.ownsRow 0 e t.sz (β.v b) xs.length Vs/\xs.length<=140737488355328/\(∀ p,(β.v b).ownBlock=some p->β.o p=some (b,none))/\∀ i j,i<xs.length->j<t.sz->CellOk F w β b cols hole i j ((t.enc (nth xs i)).getD j .undef) (Vs.getD (i*t.sz+j) undef)
 | .map k v cols es=>∃ (Es:Array MapEntry) (clock:Nat),w.heap[β.b b]?=some (.map Es clock)/\Es.size=es.length/\β.o (β.b b)=some (b,none)/\
  (∀ i,i<es.length->D F w (zbU k (es.getD i default).1) (Es.getD i default).key)/\∀ i,i<es.length->CellOk F w β b cols [] 0 0 (zbU v (es.getD i default).2) (Es.getD i default).val
 | .rom k v es=>D F w (.mp k v es) (.map (some (β.b b)))
 | .ro t xs=>D F w (.sl t xs) (β.v b)
 | .rob t x=>D F w (.op t (some x)) (.pointer (some ⟨β.b b,0,none⟩))
 | .dead=>True
structure HOk(F:Nat->Prop)(w:World)(β:Gh)(hp:List Blk):Prop where
 fb : ∀ p,F p->p<w.heap.size
 blk : ∀ b k,hp[b]?=some k->BlkOk F w β b k
 lt : ∀ p κ,β.o p=some κ->p<w.heap.size
 sep : ∀ p κ,β.o p=some κ->¬ F p
 live : ∀ b,β.l b->b<hp.length
def DfOk(F:Nat->Prop)(w:World)(β:Gh):List (FuncId × List AV)->List Deferred->Prop
 | [],[]=>True
 | (f,as) :: r,d :: ds=>(∃ cap,d.target=.fn (.func f) cap/\(d.args++cap).size=as.length/\∀ j,j<as.length->V F w β (as.getD j .undef) ((d.args++cap).getD j undef))/\DfOk F w β r ds
 | _,_=>False
structure Bs where
 w:World
 M:Nat->Prop
 F:Nat->Prop
 β:Gh
structure Rel(B:Bs)(F:Nat->Prop)(β:Gh)(st:St)(a:Act)(w:World):Prop where
 len:st.env.length=a.tmps.size
 env : ∀ t,V F w β (st.get t) (a.tmps.getD t undef)
 gl : ∀ g,D F w (st.gl.getD g .undef) (.pointer (some ⟨g,0,none⟩))
 df:DfOk F w β st.df a.defers
 kept:Keeps B.M B.w w
 fo : ∀ p,F p->B.F p ∨ B.M p ∨ B.w.heap.size<=p
 fi : ∀ p,B.F p->F p
 lo : ∀ p κ,β.o p=some κ->B.M p ∨ B.w.heap.size<=p
 per:B.β.Le β
 bn : ∀ j,B.β.l j->j<st.np
 nw : ∀ b,β.l b->B.β.l b ∨ st.np<=b
 hn:st.np<=st.heap.length
 heap:HOk F w β st.heap
theorem DfOk.imp{F F':Nat->Prop}{w w':World}{β β':Gh}(hi : ∀ x y,V F w β x y->V F' w' β' x y) : ∀ {l:List (FuncId × List AV)} {ds:List Deferred},DfOk F w β l ds->DfOk F' w' β' l ds
 | [],[],_=>trivial
 | (f,as) :: r,d :: ds,⟨⟨cap,h1,h2,h3⟩,h4⟩=>⟨⟨cap,h1,h2,fun j hj=>hi _ _ (h3 j hj)⟩,DfOk.imp hi h4⟩
 | [],_ :: _,h=>h.elim
 | _ :: _,[],h=>h.elim
theorem zdz{α:Type}{P:Program} : ∀ {s:Sem α} {a:α},zeU P s=some a->∀ w,s.run P w=.ok a w
 | .pure x,a,h,w=>by simp[zeU]at h;subst h;rfl
 | .program k,a,h,w=>by simp only[zeU]at h;simp only[Sem.run];exact zdz h w
 | .mark _ k,a,h,w=>by simp only[zeU]at h;simp only[Sem.run];exact zdz h w
 | .load ..,_,h,_ | .store ..,_,h,_ | .new ..,_,h,_ | .shape ..,_,h,_ | .freeze ..,_,h,_ | .frozen ..,_,h,_ | .getObj ..,_,h,_ | .setObj ..,_,h,_ | .choose ..,_,h,_ | .sys ..,_,h,_ | .halt ..,_,h,_=>by simp[zeU]at h
section
variable {F:Nat->Prop} {w:World} {β:Gh}
theorem V_v{x y:Value}(h:V F w β (.v x) y):y=x:=by cases h;rfl
theorem zg0(x:Value):V F w β (zhH x) x:=by
 unfold zhH
 split
 . rename_i cs
   refine .agg _ _ (by simp) fun j hj=>?_
   have hj':j<cs.size:=by simpa using hj
   simp[List.getD,Array.getD,hj']
   exact .v _
 . exact .v _
theorem zwF(x:Value):V F w β (zlH x) x:=zg0 x
theorem zGS{x:AV}{y z:Value}(h:V F w β x y)(hx:x.val1=some z):y=z:=by
 cases x <;> simp[AV.val1]at hx
 subst hx
 exact V_v h
theorem znT : ∀ {cs:List AV} {zs:List Value},zpL cs=some zs->zs.length=cs.length/\∀ j,j<cs.length->(cs.getD j .undef).val1=some (zs.getD j undef)
 | [],zs,h=>by simp[zpL]at h;subst h;simp
 | c :: cs,zs,h=>by
  simp only[zpL]at h
  split at h
  . rename_i v vs hv hvs
    simp at h;subst h
    obtain ⟨h1,h2⟩:=znT hvs
    refine⟨by simp[h1],fun j hj=>?_⟩
    cases j with
    | zero=>simpa using hv
    | succ j=>simpa using h2 j (by simpa using hj)
  . cases h
theorem zG1{cs:List AV}{ys:Array Value}(hl:ys.size=cs.length){zs:List Value}(h1:zs.length=cs.length)(h2 : ∀ j,j<cs.length->ys.getD j undef=zs.getD j undef):ys=zs.toArray:=by
 apply Array.ext
 . simp[h1,hl]
 . intro j hj hj'
   have hc:j<cs.length:=by omega
   have:=h2 j hc
   simpa [List.getD,Array.getD,hj,show j<zs.length by omega]using this
theorem zGY{cs:List AV}{ys:Array Value}(hl:ys.size=cs.length)(h : ∀ j,j<cs.length->V F w β (cs.getD j .undef) (ys.getD j undef)){zs:List Value}(hz:zpL cs=some zs):ys=zs.toArray:=by
 obtain ⟨h1,h2⟩:=znT hz
 exact zG1 hl h1 fun j hj=>zGS (h j hj) (h2 j hj)
theorem zej{x:AV}{y z:Value}(h:V F w β x y)(hx:x.val=some z):y=z:=by
 cases h <;> simp[AV.val]at hx
 . exact hx
 . rename_i cs ys hl h
   split at hx
   . rename_i zs hz
     simp at hx;subst hx
     rw[zGY hl h hz]
   . cases hx
theorem zCC(l:List Value)(j:Nat):l.toArray.getD j undef=l.getD j undef:=by rw[Array.getD_eq_getD_getElem?,List.getElem?_toArray,← List.getD_eq_getElem?_getD]
theorem zgr{F':Nat->Prop}{w':World} : ∀ (n:Nat) {x:AV} {y:Value},V F w β x y->x.noF n=true->V F' w' β x y
 | 0,x,y,_,hx=>by simp[AV.noF]at hx
 | n+1,x,y,h,hx=>by
  have get : ∀ {cs:List AV},cs.all (AV.noF n)=true->∀ j,j<cs.length->(cs.getD j .undef).noF n=true:=fun {cs} h j hj=>by
   have:=List.all_eq_true.1 h (cs[j]) (List.getElem_mem hj)
   simpa [List.getD,hj]using this
  cases h <;> simp only[AV.noF,Bool.and_eq_true]at hx <;> try (cases hx;done)
  . exact .v _
  . rename_i cs ys hl h;exact .agg _ _ hl fun j hj=>zgr n (h j hj) (get hx j hj)
  . rename_i cs ys hl h;exact .tup _ _ hl fun j hj=>zgr n (h j hj) (get hx j hj)
  . rename_i b off hb;exact .ref _ _ hb
  . rename_i b hb A n c hv;exact .own _ hb _ _ _ hv
  . rename_i f as cs ya yc hla hlc ha hc;exact .fn _ _ _ _ _ hla hlc (fun j hj=>zgr n (ha j hj) (get hx.1 j hj)) (fun j hj=>zgr n (hc j hj) (get hx.2 j hj))
  . rename_i t x y h;exact .ifc _ _ _ (zgr n h hx)
  . rename_i h;exact .any _ h
  . rename_i b hb;exact .om _ hb
theorem zmx{β':Gh}{s:Nat->Option Nat}(hs : ∀ b j,β.l b->s b=some j->β'.l j/\β'.b j=β.b b/\β'.v j=β.v b) : ∀ (n:Nat) {x:AV} {y:Value},V F w β x y->V F w β' (x.mapB s n) y
 | 0,x,y,_=>by simp only[AV.mapB];exact .undef _
 | n+1,x,y,h=>by
  have get : ∀ {cs:List AV} {Y:Nat->Value},(∀ j,j<cs.length->V F w β (cs.getD j .undef) (Y j))->∀ j,j<(cs.map (AV.mapB s n)).length->V F w β' ((cs.map (AV.mapB s n)).getD j .undef) (Y j):=fun {cs Y} h j hj=>by
   have hj':j<cs.length:=by simpa using hj
   have:=zmx hs n (h j hj')
   simpa [List.getD,hj']using this
  have pure : ∀ {x:AV},V F w β x y->zc7 x->V F w β' x y:=fun h hp=>.ofD (h.toD hp)
  cases h <;> simp only[AV.mapB]
  . exact .undef _
  . exact .v _
  . rename_i cs ys hl h;exact .agg _ _ (by simp[hl]) (get h)
  . rename_i cs ys hl h;exact .tup _ _ (by simp[hl]) (get h)
  . exact .sl0 _ _ _
  . rename_i t xs b o c Y hF hb hl hcap hc h;exact pure (.sl t xs b o c Y hF hb hl hcap hc h) (.sl _ _)
  . exact .op0 _
  . rename_i t x b o Y hF hb hc h;exact pure (.op t x b o Y hF hb hc h) (.op _ _)
  . rename_i t xs i off b o Y hi hF hb hc h;exact pure (.el t xs i off b o Y hi hF hb hc h) (.el _ _ _ _)
  . rename_i b off hb
    split
    . rename_i j hj
      obtain ⟨h1,h2,_⟩:=hs b j hb hj
      rw[← h2];exact .ref _ _ h1
    . exact .undef _
  . rename_i b hb A n' c hv
    split
    . rename_i j hj
      obtain ⟨h1,_,h2⟩:=hs b j hb hj
      rw[← h2];exact .own _ h1 _ _ _ (h2.trans hv)
    . exact .undef _
  . rename_i b sz i off p n' c hb hv hi
    split
    . rename_i j hj
      obtain ⟨h1,_,h2⟩:=hs b j hb hj
      exact .oel _ _ _ _ _ _ _ h1 (h2.trans hv) hi
    . exact .undef _
  . rename_i b o0 t m i d hb hi
    split
    . rename_i j hj
      obtain ⟨h1,h2,_⟩:=hs b j hb hj
      rw[← h2];exact .rex _ _ _ _ _ _ h1 hi
    . exact .undef _
  . rename_i b sz o n' c' A hb hc hv
    split
    . rename_i j hj
      obtain ⟨h1,_,h2⟩:=hs b j hb hj
      exact .vw _ _ _ _ _ _ h1 hc fun h0=>(by rw[h2];exact hv h0)
    . exact .undef _
  . rename_i f as cs ya yc hla hlc ha hc;exact .fn _ _ _ _ _ (by simp[hla]) (by simp[hlc]) (get ha) (get hc)
  . rename_i c h;exact pure (.clo c y h) (.clo _)
  . rename_i t x y h;exact .ifc _ _ _ (zmx hs n h)
  . rename_i h;exact .any _ h
  . exact .mp0 _ _
  . rename_i k v es b Es clock hF hb hc hl hk hv;exact pure (.mp k v es b Es clock hF hb hc hl hk hv) (.mp _ _ _)
  . rename_i b hb
    split
    . rename_i j hj
      obtain ⟨h1,h2,_⟩:=hs b j hb hj
      rw[← h2];exact .om _ h1
    . exact .undef _
end
section
variable {B:Bs} {F:Nat->Prop} {β:Gh} {st:St} {a:Act} {w:World}
theorem Rel.ev(h:Rel B F β st a w)(x:Operand):V F w β (st.ev x) (a.eval x):=by
 cases x with
 | tmp t=>exact h.env t
 | const v=>exact zwF v
 | global g=>exact .ofD (h.gl g)
 | func f=>exact .fn _ _ _ _ _ rfl rfl (fun j hj=>by simp at hj) (fun j hj=>by simp at hj)
theorem zhg{w w':World}{e sz n:Nat}{v:Value}{Vs:List Value}(h:w.ownsRow 0 e sz v n Vs)(hk : ∀ p,v.ownBlock=some p->w'.heap[p]?=w.heap[p]?):w'.ownsRow 0 e sz v n Vs:=by
 refine⟨h.1,?_⟩
 rcases h.2 with h0 | ⟨g,cap,cur,hv,hg,hh,hr⟩
 . exact .inl h0
 . exact .inr ⟨g,cap,cur,hv,hg,by rw[hk g (by simp[hv,Value.ownBlock])];exact hh,hr⟩
theorem OutOk.mono{β β':Gh}{hole:zbI}{i j:Nat}{v:Value}(h:OutOk β hole i j v)(hβ:β.Le β'):OutOk β' hole i j v:=fun n hn=>by
 obtain ⟨h1,h2⟩:=h n hn
 obtain ⟨k1,_,k2⟩:=hβ n h1
 exact⟨k1,by rw[k2];exact h2⟩
theorem OutOk.nil{β:Gh}{i j:Nat}{v:Value}:OutOk β [] i j v:=fun n hn=>by cases hn
theorem OutOk.mapB{β β':Gh}{hole:zbI}{i j:Nat}{v:Value}{s:Nat->Option Nat}(h:OutOk β hole i j v)(hs : ∀ b c,β.l b->s b=some c->β'.l c/\β'.v c=β.v b):OutOk β' (hole.map (ziQ s)) i j v:=fun n hn=>by
 obtain ⟨⟨i',j',o⟩,h1,h2⟩:=List.mem_map.1 hn
 cases o with
 | none=>simp[ziQ]at h2
 | some m=>
  simp only[ziQ]at h2
  cases hm:s m with
  | none=>rw[hm]at h2;simp at h2
  | some m'=>
   rw[hm]at h2
   simp only[Prod.mk.injEq,Option.some.injEq]at h2
   obtain ⟨rfl,rfl,rfl⟩:=h2
   obtain ⟨k1,k2⟩:=h m h1
   obtain ⟨q1,q2⟩:=hs m m' k1 hm
   exact⟨q1,by rw[q2];exact k2⟩
theorem CellOk.turn{F F':Nat->Prop}{w w':World}{β β':Gh}{b b' i j:Nat}{cols:List (Nat × TypeId)}{hole hole':zbI}{x:AV}{v:Value}(h:CellOk F w β b cols hole i j x v)(hE:Ext F F' w w')
 (hO:OutOk β hole i j v->OutOk β' hole' i j v) (hh:OutAt hole i j->OutAt hole' i j)
 (hp : ∀ p,β.o p=some (b,some (i,j))->β'.o p=some (b',some (i,j))/\w'.heap[p]?=w.heap[p]?):CellOk F' w' β' b' cols hole' i j x v:=by
 unfold CellOk at h ⊢
 split at h
 . exact h.mono hE
 . obtain ⟨h0,h⟩:=h
   refine⟨hO h0,?_⟩
   rcases h with h | ⟨t,ys,Vs,h1,h2,h3,h4,h5⟩
   . exact .inl (hh h)
   . exact .inr ⟨t,ys,Vs,h1,zhg h2 fun p hv=>(hp p (h4 p hv)).2,h3,fun p hv=>(hp p (h4 p hv)).1,fun k m hk hm=>(h5 k m hk hm).mono hE⟩
theorem CellOk.mono{F F':Nat->Prop}{w w':World}{β β':Gh}{b b' i j:Nat}{cols:List (Nat × TypeId)}{hole:zbI}{x:AV}{v:Value}(h:CellOk F w β b cols hole i j x v)(hE:Ext F F' w w')(hβ:β.Le β')
 (hp : ∀ p,β.o p=some (b,some (i,j))->β'.o p=some (b',some (i,j))/\w'.heap[p]?=w.heap[p]?):CellOk F' w' β' b' cols hole i j x v:=h.turn hE (fun h=>h.mono hβ) (fun h=>h) hp
theorem CellOk.mapB{F F':Nat->Prop}{w w':World}{β β':Gh}{b b' i j:Nat}{cols:List (Nat × TypeId)}{hole:zbI}{x:AV}{v:Value}{s:Nat->Option Nat}(h:CellOk F w β b cols hole i j x v)(hE:Ext F F' w w')(hs : ∀ b c,β.l b->s b=some c->β'.l c/\β'.v c=β.v b)
 (hp : ∀ p,β.o p=some (b,some (i,j))->β'.o p=some (b',some (i,j))/\w'.heap[p]?=w.heap[p]?):CellOk F' w' β' b' cols (hole.map (ziQ s)) i j x v:=
 h.turn hE (fun h=>h.mapB hs) (fun h=>h.mapB) hp
theorem CellOk.data{F:Nat->Prop}{w:World}{β:Gh}{b i j:Nat}{cols:List (Nat × TypeId)}{hole:zbI}{x:AV}{v:Value}(hc:zaA cols j=none)(h:D F w x v):CellOk F w β b cols hole i j x v:=by
 unfold CellOk;rw[hc];exact h
theorem CellOk.toD{F:Nat->Prop}{w:World}{β:Gh}{b i j:Nat}{cols:List (Nat × TypeId)}{hole:zbI}{x:AV}{v:Value}(hc:zaA cols j=none)(h:CellOk F w β b cols hole i j x v):D F w x v:=by
 unfold CellOk at h;rw[hc]at h;exact h
theorem BlkOk.mono{F F':Nat->Prop}{w w':World}{β β':Gh}{b:Nat}{k:Blk}(h:BlkOk F w β b k)(hE:Ext F F' w w')(hβ:β.Le β')(hb:β'.b b=β.b b/\β'.v b=β.v b)
 (hp : ∀ p s,β.o p=some (b,s)->β'.o p=some (b,s)/\w'.heap[p]?=w.heap[p]?):BlkOk F' w' β' b k:=by
 cases k with
 | cells e cs=>
  obtain ⟨ys,T,h1,h2,h3,h4⟩:=h
  obtain ⟨q1,q2⟩:=hp _ _ h3
  exact⟨ys,T,by rw[hb.1,q2];exact h1,h2,by rw[hb.1];exact q1,fun j hj=>(h4 j hj).mono hE hβ⟩
 | row e t cols hole xs=>
  obtain ⟨Vs,h1,h2,h3,h4⟩:=h
  refine⟨Vs,?_,h2,fun p hv=>?_,fun i j hi hj=>(h4 i j hi hj).mono hE hβ fun p hq=>hp p _ hq⟩
  . rw[hb.2]
    exact zhg h1 fun p hv=>(hp p none (h3 p hv)).2
  . rw[hb.2]at hv
    exact(hp p none (h3 p hv)).1
 | ro t xs=>
  have:D F w (.sl t xs) (β.v b):=h
  show D F' w' (.sl t xs) (β'.v b)
  rw[hb.2]
  exact this.mono hE
 | rob t x=>
  have:D F w (.op t (some x)) (.pointer (some ⟨β.b b,0,none⟩)):=h
  show D F' w' (.op t (some x)) (.pointer (some ⟨β'.b b,0,none⟩))
  rw[hb.1]
  exact this.mono hE
 | map k v cols es=>
  obtain ⟨Es,clock,h1,h2,h3,h4,h5⟩:=h
  obtain ⟨q1,q2⟩:=hp _ _ h3
  exact⟨Es,clock,by rw[hb.1,q2];exact h1,h2,by rw[hb.1];exact q1,fun i hi=>(h4 i hi).mono hE,fun i hi=>(h5 i hi).mono hE hβ fun p hq=>hp p _ hq⟩
 | rom k v es=>
  have:D F w (.mp k v es) (.map (some (β.b b))):=h
  show D F' w' (.mp k v es) (.map (some (β'.b b)))
  rw[hb.1]
  exact this.mono hE
 | dead=>trivial
theorem HOk.later{hp:List Blk}(h:HOk F w β hp){w':World}(hb:Below w.heap.size w w'):HOk F w' β hp:=
 ⟨fun p hF=>Nat.lt_of_lt_of_le (h.fb p hF) hb.size,fun b k hk=>(h.blk b k hk).mono (.below hb) (.refl _) ⟨rfl,rfl⟩ (fun p s hp=>⟨hp,hb.block p (h.lt p _ hp)⟩),
 fun p κ hp=>Nat.lt_of_lt_of_le (h.lt p κ hp) hb.size,h.sep,h.live⟩
theorem Rel.later(h:Rel B F β st a w){w':World}(hb:Below w.heap.size w w'):Rel B F β st a w':=by
 have hE:Ext F F w w':=.below hb
 have hv : ∀ {x y},V F w β x y->V F w' β x y:=fun h=>h.mono hE (.refl _)
 exact⟨h.len,fun t=>hv (h.env t),fun g=>(h.gl g).mono hE,h.df.imp fun _ _=>hv,h.kept.trans (.of_below (M:=fun _=>False) hb) (fun _ h=>h) (fun _ h=>h.elim),h.fo,h.fi,h.lo,h.per,h.bn,h.nw,h.hn,h.heap.later hb⟩
end
end Go.Proofs.YtgajeebphoiphaaGreatDoor
end
