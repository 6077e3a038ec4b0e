import Derived.Test.YtgajeebphoiphaaGreatDoorS6C
import Derived.Defers
set_option linter.unusedVariables false
set_option linter.unusedSimpArgs false
noncomputable section
namespace Go.Proofs.YtgajeebphoiphaaGreatDoor
open Go.RowKit
theorem hasN_iff{b:Nat} : ∀ {l:List Nat},zfH b l=true ↔ b ∈ l
 | []=>by simp[zfH]
 | x :: r=>by
  simp only[zfH,List.mem_cons]
  cases hx:Nat.beq x b with
  | true=>have:=Nat.eq_of_beq_eq_true hx;simp[this]
  | false=>
   have:b ≠ x:=fun e=>by subst e;simp at hx
   simp[this,hasN_iff (l:=r)]
theorem nodupB_iff : ∀ {l:List Nat},zgs l=true ↔ l.Nodup
 | []=>by simp[zgs]
 | x :: r=>by
  simp only[zgs,List.nodup_cons]
  cases hx:zfH x r with
  | true=>have:=hasN_iff.1 hx;simp[this]
  | false=>
   have:x ∉ r:=fun h=>by rw[hasN_iff.2 h]at hx;cases hx
   simp[this,nodupB_iff (l:=r)]
theorem zcv : ∀ {l:List Nat} {b j:Nat},idx l b=some j->j<l.length/\l.getD j 0=b
 | [],b,j,h=>by simp[idx]at h
 | x :: r,b,j,h=>by
  simp only[idx]at h
  split at h
  . rename_i hx
    simp at h;subst h
    exact⟨by simp,by simpa using Nat.eq_of_beq_eq_true hx⟩
  . split at h
    . rename_i j' hj'
      simp at h;subst h
      obtain ⟨h1,h2⟩:=zcv hj'
      exact⟨by simpa using h1,by simpa using h2⟩
    . cases h
theorem zvv : ∀ {l:List Nat} {b:Nat},b ∈ l->∃ j,idx l b=some j
 | [],b,h=>by cases h
 | x :: r,b,h=>by
  simp only[idx]
  cases hx:Nat.beq x b with
  | true=>exact⟨0,rfl⟩
  | false=>
   have:b ∈ r:=by
    rcases List.mem_cons.1 h with rfl | h
    . simp at hx
    . exact h
   obtain ⟨j,hj⟩:=zvv this
   exact⟨j+1,by simp[hj]⟩
theorem zr7{l:List Nat}(hn:l.Nodup){j:Nat}(hj:j<l.length):idx l (l.getD j 0)=some j:=by
 have hm:l.getD j 0 ∈ l:=by simp[List.getD,hj]
 obtain ⟨i,hi⟩:=zvv hm
 obtain ⟨h1,h2⟩:=zcv hi
 have:i=j:=by
  have e:l[i]=l[j]:=by simpa [List.getD,h1,hj]using h2
  exact(List.getElem_inj hn).1 e
 rw[hi,this]
def Gh.sub(β:Gh)(ids:List Nat):Gh:=
 ⟨fun j=>β.b (ids.getD j 0),fun j=>β.v (ids.getD j 0),fun p=>match β.o p with | some (b,s)=>(match idx ids b with | some j=>some (j,s) | none=>none) | none=>none,fun j=>j<ids.length/\β.l (ids.getD j 0)⟩
theorem sub_o{β:Gh}{ids:List Nat}{p:Nat}{κ:Nat × Option (Nat × Nat)}:(β.sub ids).o p=some κ ↔ ∃ b,β.o p=some (b,κ.2)/\idx ids b=some κ.1:=by
 simp only[Gh.sub]
 cases hq:β.o p with
 | none=>simp
 | some κ'=>
  obtain ⟨b,s⟩:=κ'
  cases hi:idx ids b with
  | none=>simp[hi]
  | some j=>
   simp[hi]
   constructor
   . rintro rfl;exact⟨b,⟨rfl,rfl⟩,hi⟩
   . rintro ⟨b',⟨rfl,h2⟩,h3⟩
     rw[hi]at h3
     simp at h3
     ext <;> simp[h2,h3]
section
variable {P:Program} {GL:List AV} {G:Gam} {B:Bs} {F:Nat->Prop} {β:Gh} {st:St} {a:Act} {w:World}
theorem zCo{ids:List Nat}(n:Nat){x:AV}{y:Value}(h:V F w β x y):V F w (β.sub ids) (x.mapB (idx ids) n) y:=
 zmx (fun b j hb hj=>by
  obtain ⟨h1,h2⟩:=zcv hj
  exact⟨⟨h1,by rw[h2];exact hb⟩,by simp[Gh.sub,← h2],by simp[Gh.sub,← h2]⟩) n h
theorem zrm{ids:List Nat}{cs:List AV}{Y:Nat->Value}(h : ∀ j,j<cs.length->V F w β (cs.getD j .undef) (Y j))(n:Nat) : ∀ j,j<(cs.map (AV.mapB (idx ids) n)).length->V F w (β.sub ids) ((cs.map (AV.mapB (idx ids) n)).getD j .undef) (Y j):=fun j hj=>by
 have hj':j<cs.length:=by simpa using hj
 have:=zCo (ids:=ids) n (h j hj')
 simpa [List.getD,hj']using this
theorem ztx{hp:List Blk}{ids:List Nat}{j:Nat}{k:Blk}(h:(zbE hp ids)[j]?=some k):j<ids.length/\k=(hp.getD (ids.getD j 0) .dead).mapB (idx ids):=by
 have hj:j<ids.length:=by
  have:=(List.getElem?_eq_some_iff.1 h).1
  simpa [zbE]using this
 refine⟨hj,?_⟩
 simpa [zbE,hj,List.getD,eq_comm]using h
theorem HOk.sub{hp:List Blk}(h:HOk F w β hp){ids:List Nat}(hn:ids.Nodup):HOk F w (β.sub ids) (zbE hp ids):=by
 refine⟨h.fb,fun j k hk=>?_,fun p κ hp'=>?_,fun p κ hp'=>?_,fun j hj=>by simpa [zbE]using hj.1⟩
 . obtain ⟨hj,rfl⟩:=ztx hk
   generalize hb:ids.getD j 0=b
   have hi:idx ids b=some j:=by rw[← hb];exact zr7 hn hj
   cases hk0:hp[b]? with
   | none=>simp[List.getD,hk0];trivial
   | some k0=>
    have hk1:hp.getD b .dead=k0:=by simp[List.getD,hk0]
    rw[hk1]
    have hok:=h.blk b k0 hk0
    have hbb:(β.sub ids).b j=β.b b:=by simp only[Gh.sub];rw[hb]
    have hvv:(β.sub ids).v j=β.v b:=by simp only[Gh.sub];rw[hb]
    cases k0 with
    | cells e cs=>
     obtain ⟨ys,T,h1,h2,h3,h4⟩:=hok
     exact⟨ys,T,by rw[hbb];exact h1,by simpa using h2,by rw[hbb];exact sub_o.2 ⟨b,h3,hi⟩,zrm h4 9⟩
    | row e t cols hole xs=>
     obtain ⟨Vs,h1,h2,h3,h4⟩:=hok
     exact⟨Vs,by rw[hvv];exact h1,h2,fun p hp'=>by rw[hvv]at hp';exact sub_o.2 ⟨b,h3 p hp',hi⟩,fun i' j' hi' hj'=>(h4 i' j' hi' hj').mapB (zaO (fun _ h=>h) w) (fun c d hc hd=>by
      obtain ⟨q1,q2⟩:=zcv hd
      exact⟨⟨q1,by rw[q2];exact hc⟩,by simp only[Gh.sub];rw[q2]⟩) fun p hp'=>⟨sub_o.2 ⟨b,hp',hi⟩,rfl⟩⟩
    | ro t xs=>show D F w _ _;rw[hvv];exact hok
    | rob t x=>show D F w _ _;rw[hbb];exact hok
    | map k v cols es=>
     obtain ⟨Es,clock,h1,h2,h3,h4,h5⟩:=hok
     exact⟨Es,clock,by rw[hbb];exact h1,h2,by rw[hbb];exact sub_o.2 ⟨b,h3,hi⟩,h4,fun i' hi'=>(h5 i' hi').turn (zaO (fun _ h=>h) w) (fun _=>.nil) (fun h=>h) fun p hp'=>⟨sub_o.2 ⟨b,hp',hi⟩,rfl⟩⟩
    | rom k v es=>show D F w _ _;rw[hbb];exact hok
    | dead=>trivial
 . obtain ⟨b,h1,_⟩:=sub_o.1 hp';exact h.lt p _ h1
 . obtain ⟨b,h1,_⟩:=sub_o.1 hp';exact h.sep p _ h1
theorem ziR {ids:List Nat} : ∀ {n:Nat},St.head.idxs ids n=n->∀ j,j<n->j<ids.length/\ids.getD j 0=j
 | 0,_,j,hj=>by omega
 | n+1,h,j,hj=>by
  simp only[St.head.idxs]at h
  split at h
  . rename_i b hb
    split at h
    . rename_i he
      by_cases hjn:j=n
      . subst hjn
        have:=Nat.eq_of_beq_eq_true he
        subst this
        exact⟨(List.getElem?_eq_some_iff.1 hb).1,by simp[List.getD,hb]⟩
      . exact ziR (n:=n) (by omega) j (by omega)
    . omega
  . omega
theorem zAH{α β:Type}{f:α->β}{l:List α}{j:Nat}{d:α}{e:β}(hd:f d=e):(l.map f).getD j e=f (l.getD j d):=by
 simp only[List.getD,List.getElem?_map]
 cases l[j]? <;> simp[hd]
theorem Rel.sub(h:Rel B F β st a w){ids:List Nat}(hn:ids.Nodup)(hi:St.head.idxs ids st.np=st.np):Rel B F (β.sub ids) (st.sub ids) a w:=by
 refine⟨by simp[St.sub,h.len],fun t=>?_,h.gl,?_,h.kept,h.fo,h.fi,fun p κ hp=>?_,fun j hj=>?_,h.bn,fun j hj=>?_,?_,h.heap.sub hn⟩
 . have:=zCo (ids:=ids) 9 (h.env t)
   have e:(st.sub ids).get t=(st.get t).mapB (idx ids) 9:=zAH (f:=AV.mapB (idx ids) 9) rfl
   rw[e];exact this
 . have key : ∀ {l:List (FuncId × List AV)} {ds:List Deferred},DfOk F w β l ds->DfOk F w (β.sub ids) (l.map fun(f,as)=>(f,as.map (AV.mapB (idx ids) 9))) ds:=by
    intro l
    induction l with
    | nil=>intro ds h;cases ds with | nil=>trivial | cons=>exact h.elim
    | cons x l ih=>
     intro ds h
     obtain ⟨f,as⟩:=x
     cases ds with
     | nil=>exact h.elim
     | cons d ds=>
      obtain ⟨⟨cap,h1,h2,h3⟩,h4⟩:=h
      exact⟨⟨cap,h1,by simpa using h2,zrm h3 9⟩,ih h4⟩
   exact key h.df
 . obtain ⟨b,h1,_⟩:=sub_o.1 hp;exact h.lo p _ h1
 . obtain ⟨h1,h2,h3⟩:=h.per j hj
   obtain ⟨k1,k2⟩:=ziR hi j (h.bn j hj)
   exact⟨⟨k1,by rw[k2];exact h1⟩,by simp only[Gh.sub];rw[k2];exact h2,by simp only[Gh.sub];rw[k2];exact h3⟩
 . by_cases hjn:j<st.np
   . obtain ⟨k1,k2⟩:=ziR hi j hjn
     have:=h.nw _ hj.2
     rw[k2]at this
     rcases this with h1 | h1
     . exact .inl h1
     . omega
   . exact .inr (Nat.le_of_not_lt hjn)
 . show st.np<=(zbE st.heap ids).length
   simp only[zbE,List.length_map]
   cases hnp:st.np with
   | zero=>omega
   | succ n=>
    have:=(ziR hi n (by omega)).1
    omega
def GlOk(GL:List AV)(F:Nat->Prop)(w:World):Prop:=∀ g,D F w (GL.getD g .undef) (.pointer (some ⟨g,0,none⟩))
def Aft(F:Nat->Prop)(w:World)(β:Gh)(N:Nat)(an:Ans)(y:Value)(w':World):Prop:=
 ∃ (F':Nat->Prop) (β':Gh),Keeps (fun p=>β.o p ≠ none) w w'/\(∀ p,F p->F' p)/\(∀ p,F' p->F p ∨ β.o p ≠ none ∨ w.heap.size<=p)/\(∀ p κ,β'.o p=some κ->β.o p ≠ none ∨ w.heap.size<=p)/\
  β.Le β'/\(∀ j,β'.l j->β.l j ∨ N<=j)/\HOk F' w' β' an.hp/\V F' w' β' an.r y
def zrA(C:FuncId->Array Value->World->(Ending->World->Prop)->Prop)(GL:List AV)(f:FuncId)(args:List AV)(hp:List Blk)(an:Ans):Prop:=
 ∀ (F:Nat->Prop) (w:World) (β:Gh) (vs:List Value),HOk F w β hp->GlOk GL F w->vs.length=args.length->(∀ j,j<args.length->V F w β (args.getD j .undef) (vs.getD j undef))->
  C f vs.toArray w fun e w'=>∃ y,e=.returned y/\Aft F w β hp.length an y w'
def Okay(P:Program)(GL:List AV)(f:FuncId)(args:List AV)(hp:List Blk)(an:Ans):Prop:=zrA (Calls P) GL f args hp an
def CD(P:Program)(f:FuncId)(args:Array Value)(w:World)(R:Ending->World->Prop):Prop:=∀ u,CallsD P f args u w fun e u' w'=>u'=u/\R e w'
def zip(P:Program)(f:FuncId):Prop:=∃ fn,P.funcs[f]?=some fn/\(fn.name == "runtime.NumGoroutine")=false/\fn.body.isNone=false
def zGk(C:FuncId->Array Value->World->(Ending->World->Prop)->Prop)(P:Program)(GL:List AV)(c:Cal)(args:List AV)(hp:List Blk)(an:Ans):Prop:=
 match c with
 | .f n=>zip P n/\zrA C GL n args hp an
 | .a n=>zip P n/\zrA C GL n args hp an
 | .c x=>∃ n as,target P x.out args=some (.f n,as)/\zip P n/\zrA C GL n as hp an
def zrx(C:FuncId->Array Value->World->(Ending->World->Prop)->Prop)(P:Program)(GL:List AV)(G:Gam):Prop:=∀ c args hp y,G c args hp=some y->∀ x,y.o=some x->zGk C P GL c args hp (y.to x)
def OkC(P:Program)(GL:List AV)(c:Cal)(args:List AV)(hp:List Blk)(an:Ans):Prop:=zGk (Calls P) P GL c args hp an
def GOk(P:Program)(GL:List AV)(G:Gam):Prop:=zrx (Calls P) P GL G
theorem zdZ{n:FuncId}(h:zip P n)(vs:Array Value)(w:World):(callFunc n vs).run P w=.ok (.enter n vs) w:=by
 obtain ⟨fn,hfn,hne,hb⟩:=h
 have hne' : ¬ fn.name = "runtime.NumGoroutine" := by simpa using hne
 have hb' : ¬ fn.body=none:=fun e=>by rw[e]at hb;cases hb
 simp[callFunc,Sem.run_bind,run_program,hfn,hne',hb']
theorem zax{α:Type}{l r:List α}{j:Nat}{d:α}:(l++r).getD j d=if j<l.length then l.getD j d else r.getD (j-l.length) d:=by
 simp only[List.getD]
 by_cases h:j<l.length
 . rw[if_pos h,List.getElem?_append_left h]
 . rw[if_neg h,List.getElem?_append_right (Nat.le_of_not_lt h)]
theorem zg4{cs ds:List AV}{ys zs:List Value}(hl:ys.length=cs.length)(h1 : ∀ j,j<cs.length->V F w β (cs.getD j .undef) (ys.getD j undef))(h2 : ∀ j,j<ds.length->V F w β (ds.getD j .undef) (zs.getD j undef)) :
 ∀ j,j<(cs++ds).length->V F w β ((cs++ds).getD j .undef) ((ys++zs).getD j undef):=fun j hj=>by
 rw[zax,zax,hl]
 by_cases h:j<cs.length
 . rw[if_pos h,if_pos h];exact h1 j h
 . rw[if_neg h,if_neg h];exact h2 _ (by simp at hj;omega)
theorem zbF(l:Array Value)(j:Nat):l.toList.getD j undef=l.getD j undef:=by rw[List.getD_eq_getElem?_getD,Array.getElem?_toList,Array.getD_eq_getD_getElem?]
def zyH(P:Program)(F:Nat->Prop)(w:World)(β:Gh)(y:Value)(vs:Array Value)(n:FuncId)(as:List AV):Prop:=
 ∃ us:List Value,(∀ w':World,(do let d ← Deferred.ofValue y vs;invoke d.target d.args:Sem Next).run P w'=.ok (.enter n us.toArray) w')/\us.length=as.length/\∀ j,j<as.length->V F w β (as.getD j .undef) (us.getD j undef)
theorem zk5{y:Value}{vs:Array Value}{args:List AV}{t:TypeId}{x:AV}{name:String}{f:FuncId}(hf:V F w β (.ifc t x) y)(hl:vs.size=args.length)(hv : ∀ j,j<args.length->V F w β (args.getD j .undef) (vs.getD j undef))(hm:zdF P t name=some f)(hn:zip P f):zyH P F w β (.func (.method name) #[y] #[]) vs f (x :: args):=by
 cases hf with
 | ifc _ _ z hz=>
 unfold zdF at hm
 split at hm
 . rename_i i fs hi hu
   split at hm
   . rename_i m hfind
     split at hm
     . rename_i f' hp hfn
       simp at hm;subst hm
       refine⟨z :: vs.toList,fun w'=>?_,by simp[hl],fun j hj=>?_⟩
       . have hp':m.path=#[]:=by simpa using hp
         have e2:(#[Value.iface t z]++vs).extract 1 (#[Value.iface t z]++vs).size=vs:=by
          apply Array.ext';rw[Array.toList_extract];simp[List.extract];exact List.take_of_length_le (by simp)
         have e1:(#[Value.iface t z]++vs)[0]?=some (Value.iface t z):=by rw[Array.getElem?_append_left (by simp)];rfl
         have hcf:=zdZ hn (#[z]++vs) w'
         have e3:(z :: vs.toList).toArray=#[z]++vs:=by apply Array.ext';simp
         have hmeth:(method (P.types.size+Made.depth) t z name).run P w'=.ok (f',z) w':=by
          have hd:P.types.size+Made.depth=(P.types.size+(Made.depth-1))+1:=by
           have:0<Made.depth:=by decide
           omega
          rw[hd]
          simp[method,typeInfo,Sem.run_bind,run_program,hi,hfind,hp',follow,hfn,receiverAt,Place.get,run_underlying hu w']
         rw[e3]
         simp only[Deferred.ofValue,invoke,Sem.run_bind,Sem.run_pure,Result.andThen_ok,e1,e2,callMethod,run_program,hmeth]
         exact hcf
       . cases j with
         | zero=>simpa using hz
         | succ j=>simpa [zbF]using hv j (by simpa using hj)
     . cases hm
   . cases hm
 . cases hm
theorem zlm {fv:AV} {y:Value} {vs:Array Value} {args as:List AV} {n:FuncId} (hf:V F w β fv y) (hl:vs.size=args.length) (hv : ∀ j,j<args.length->V F w β (args.getD j .undef) (vs.getD j undef)) (ht:target P fv args=some (.f n,as)) (hn:zip P n):zyH P F w β y vs n as:=by
 have hv' : ∀ j,j<args.length->V F w β (args.getD j .undef) (vs.toList.getD j undef):=fun j hj=>by rw[zbF];exact hv j hj
 unfold target at ht
 split at ht
 . rename_i f first cap
   simp at ht;obtain ⟨rfl,rfl⟩:=ht
   cases hf with
   | fn _ _ _ ya yc hla hlc ha hc=>
    refine⟨ya.toList++vs.toList++yc.toList,fun w'=>?_,by simp[hla,hl,hlc],?_⟩
    . have:=zdZ hn (ya++vs++yc) w'
      have e:(ya.toList++vs.toList++yc.toList).toArray=ya++vs++yc:=by apply Array.ext';simp
      rw[e]
      simp only[Deferred.ofValue,invoke,Sem.run_bind,Sem.run_pure,Result.andThen_ok,this]
    . rw[← List.append_assoc]
      refine zg4 (by simp[hla,hl]) (zg4 (by simpa using hla) (fun j hj=>by rw[zbF];exact ha j hj) hv') (fun j hj=>by rw[zbF];exact hc j hj)
 . rename_i t p f ptr x
   cases hf with
   | fn _ _ _ ya yc hla hlc ha hc=>
    have hya : ∃ z,ya=#[z]:=by
     match ya,hla with
     | ⟨[z]⟩,_=>exact⟨z,rfl⟩
    obtain ⟨z,rfl⟩:=hya
    have hz:V F w β x z:=by simpa using ha 0 (by simp)
    have key:p=#[]->(∀ w':World,(receiverVia t z #[] ptr).run P w'=.ok z w')->as=x :: args->f=n->zyH P F w β (.func (.via t p f ptr) #[z] yc) vs n as:=by
     rintro rfl hr rfl rfl
     refine⟨z :: vs.toList,fun w'=>?_,by simp[hl],fun j hj=>?_⟩
     . have:=zdZ hn (#[z]++vs) w'
       have e1:(#[z]++vs)[0]?=some z:=by rw[Array.getElem?_append_left (by simp)];rfl
       have e2:(#[z]++vs).extract 1 (#[z]++vs).size=vs:=by
        apply Array.ext';rw[Array.toList_extract];simp[List.extract];exact List.take_of_length_le (by simp)
       simp only[Deferred.ofValue,invoke,Sem.run_bind,Sem.run_pure,Result.andThen_ok,e1,hr,e2,this]
       congr 2
       apply Array.ext';simp
     . cases j with
       | zero=>simpa using hz
       | succ j=>simpa using hv' j (by simpa using hj)
    split at ht
    . rename_i e hp hu
      simp at ht;obtain ⟨rfl,rfl⟩:=ht
      refine key (by simpa using hp) (fun w'=>?_) rfl rfl
      simp[receiverVia,follow,receiverAt,Place.get,Sem.run_bind,run_underlying hu w']
    . cases ht
    . rename_i d hne hp hu
      simp at ht;obtain ⟨rfl,rfl⟩:=ht
      refine key (by simpa using hp) (fun w'=>?_) rfl rfl
      cases d <;> simp[receiverVia,follow,receiverAt,Place.get,Sem.run_bind,run_underlying hu w']
      exact(hne _ rfl).elim
    . cases ht
 . simp at ht
 . rename_i nm t x
   split at ht
   . rename_i f' hm
     simp at ht;obtain ⟨rfl,rfl⟩:=ht
     cases hf with
     | fn _ _ _ ya yc hla hlc ha hc=>
      have hya : ∃ u,ya=#[u]:=by
       match ya,hla with
       | ⟨[u]⟩,_=>exact⟨u,rfl⟩
      obtain ⟨u,rfl⟩:=hya
      have hyc:yc=#[]:=by apply Array.eq_empty_of_size_eq_zero;simpa using hlc
      subst hyc
      exact zk5 (by simpa using ha 0 (by simp)) hl hv hm hn
   . cases ht
 . cases ht
theorem zCu{fv:AV}{args as:List AV}{x:Clo}(ht:target P fv args=some (.c x,as)):fv=.clo x/\as=args:=by
 unfold target at ht
 split at ht
 . simp at ht
 . split at ht <;> simp at ht
 . simp at ht;obtain ⟨rfl,rfl⟩:=ht;exact⟨rfl,rfl⟩
 . split at ht <;> simp at ht
 . cases ht
end
def bk(ids:List Nat)(n j:Nat):Nat:=if j<ids.length then ids.getD j 0 else n+(j-ids.length)
theorem zu5(ids:List Nat)(n j:Nat):zjH ids n j=some (bk ids n j):=by
 unfold zjH bk
 by_cases h:j<ids.length
 . rw[if_pos h,show Nat.blt j ids.length=true by simpa using h]
   simp[List.getD,h]
 . rw[if_neg h,show Nat.blt j ids.length=false from by
    cases hb:Nat.blt j ids.length with
    | false=>rfl
    | true=>exact absurd (by simpa using hb) h]
theorem zib : ∀ (ids:List Nat) (ks hp:List Blk),ids.Nodup->ks.length=ids.length->(∀ b,b ∈ ids->b<hp.length)->(zfN hp ids ks).length=hp.length/\∀ c,(zfN hp ids ks)[c]?=match idx ids c with | some j=>ks[j]? | none=>hp[c]?
 | [],ks,hp,_,_,_=>by
  have:zfN hp [] ks=hp:=by cases ks <;> rfl
  rw[this]
  exact⟨rfl,fun c=>rfl⟩
 | b :: ids,[],hp,_,hl,_=>by simp at hl
 | b :: ids,k :: ks,hp,hn,hl,hlt=>by
  obtain ⟨hb,hn'⟩:=List.nodup_cons.1 hn
  obtain ⟨h1,h2⟩:=zib ids ks (hp.set b k) hn' (by simpa using hl) (fun c hc=>by simpa using hlt c (by simp[hc]))
  refine⟨by simpa [zfN]using h1,fun c=>?_⟩
  simp only[zfN,h2 c,idx]
  cases hx:Nat.beq b c with
  | true=>
   have:=Nat.eq_of_beq_eq_true hx
   subst this
   have hi:idx ids b=none:=by
    cases hq:idx ids b with
    | none=>rfl
    | some j=>
     obtain ⟨q1,q2⟩:=zcv hq
     exact absurd (by rw[← q2];simp[List.getD,q1]) hb
   have hlb:=hlt b (by simp)
   simp[hi,hlb]
  | false=>
   have hne:b ≠ c:=fun e=>by subst e;simp at hx
   cases hi:idx ids c with
   | some j=>simp
   | none=>simp[List.getElem?_set,hne]
def Gh.adopt(β β':Gh)(ids:List Nat)(n:Nat):Gh:=
 ⟨fun c=>match idx ids c with | some j=>β'.b j | none=>if c<n then β.b c else β'.b (c-n+ids.length),
  fun c=>match idx ids c with | some j=>β'.v j | none=>if c<n then β.v c else β'.v (c-n+ids.length),
  fun p=>match β'.o p with | some (j,s)=>some (bk ids n j,s) | none=>match β.o p with | some (c,s)=>(match idx ids c with | some _=>none | none=>some (c,s)) | none=>none,
  fun c=>β.l c ∨ ∃ j,β'.l j/\bk ids n j=c⟩
section
variable {P:Program} {GL:List AV} {G:Gam} {B:Bs} {F:Nat->Prop} {β:Gh} {st:St} {a:Act} {w:World}
theorem zHO{ids:List Nat}{n c:Nat}(hlt : ∀ b,b ∈ ids->b<n)(hc:n<=c):idx ids c=none:=by
 cases hq:idx ids c with
 | none=>rfl
 | some j=>
  obtain ⟨q1,q2⟩:=zcv hq
  have:=hlt c (by rw[← q2];simp[List.getD,q1])
  omega
theorem zzm{β':Gh}{ids:List Nat}{n:Nat}(hn:ids.Nodup)(hlt : ∀ b,b ∈ ids->b<n)(j:Nat):(β.adopt β' ids n).b (bk ids n j)=β'.b j/\(β.adopt β' ids n).v (bk ids n j)=β'.v j:=by
 unfold Gh.adopt bk
 by_cases h:j<ids.length
 . rw[if_pos h]
   simp only[zr7 hn h,and_self]
 . rw[if_neg h]
   have:=zHO (c:=n+(j-ids.length)) hlt (by omega)
   have e:n+(j-ids.length)-n+ids.length=j:=by omega
   have e2 : ¬ n+(j-ids.length)<n:=by omega
   simp only[this,if_neg e2,e,and_self]
theorem Rel.adopt (h:Rel B F β st a w) {ids:List Nat} (hn:ids.Nodup) (hlt : ∀ b,b ∈ ids->b<st.heap.length) {an:Ans} {y:Value} {w':World} (hk:ids.length<=an.hp.length) (ha:Aft F w (β.sub ids) ids.length an y w') :
 ∃ F' β',Rel B F' β' (st.adopt ids an.hp) a w'/\V F' w' β' (an.r.mapB (zjH ids st.heap.length) 9) y:=by
 obtain ⟨F',β',k1,k2,k3,k4,k5,k8,k6,k7⟩:=ha
 let n:=st.heap.length
 let βM:=β.adopt β' ids n
 have hsub : ∀ p,(β.sub ids).o p ≠ none->∃ b s,β.o p=some (b,s)/\∃ j,idx ids b=some j:=fun p hp=>by
  cases hq:(β.sub ids).o p with
  | none=>exact absurd hq hp
  | some κ=>
   obtain ⟨b,h1,h2⟩:=sub_o.1 hq
   exact⟨b,κ.2,h1,κ.1,h2⟩
 have hE:Ext F F' w w':=⟨k1.size,fun p hF hp=>⟨k2 p hF,k1.block p hp fun hq=>by
  obtain ⟨b,s,h1,_⟩:=hsub p hq
  exact h.heap.sep p _ h1 hF⟩⟩
 have hat:=fun j=>zzm (β:=β) (β':=β') (n:=n) hn hlt j
 have hle:β.Le βM:=fun c hc=>by
  have hcn:=h.heap.live c hc
  refine⟨.inl hc,?_,?_⟩
  . show(match idx ids c with | some j=>β'.b j | none=>if c<n then β.b c else _)=_
    cases hi:idx ids c with
    | none=>simp only;rw[if_pos hcn]
    | some j=>
     obtain ⟨q1,q2⟩:=zcv hi
     have:=(k5 j ⟨q1,by rw[q2];exact hc⟩).2.1
     simp only[Gh.sub,q2]at this
     exact this
  . show(match idx ids c with | some j=>β'.v j | none=>if c<n then β.v c else _)=_
    cases hi:idx ids c with
    | none=>simp only;rw[if_pos hcn]
    | some j=>
     obtain ⟨q1,q2⟩:=zcv hi
     have:=(k5 j ⟨q1,by rw[q2];exact hc⟩).2.2
     simp only[Gh.sub,q2]at this
     exact this
 have hmap : ∀ (m:Nat) {x:AV} {y:Value},V F' w' β' x y->V F' w' βM (x.mapB (zjH ids n) m) y:=fun m _ _ hv=>zmx (fun b c hb hc=>by
  rw[zu5]at hc
  simp at hc
  subst hc
  exact⟨.inr ⟨b,hb,rfl⟩,(hat b).1,(hat b).2⟩) m hv
 have hmaps : ∀ {cs:List AV} {Y:Nat->Value},(∀ j,j<cs.length->V F' w' β' (cs.getD j .undef) (Y j))->∀ j,j<(cs.map (AV.mapB (zjH ids n) 9)).length->V F' w' βM ((cs.map (AV.mapB (zjH ids n) 9)).getD j .undef) (Y j):=fun {cs Y} hv j hj=>by
  have hj':j<cs.length:=by simpa using hj
  have:=hmap 9 (hv j hj')
  simpa [List.getD,hj']using this
 have ho : ∀ p κ,βM.o p=some κ->(∃ j s,β'.o p=some (j,s)/\κ=(bk ids n j,s)) ∨ (β'.o p=none/\∃ c s,β.o p=some (c,s)/\idx ids c=none/\κ=(c,s)):=fun p κ hp=>by
  have hp':(match β'.o p with | some (j,s)=>some (bk ids n j,s) | none=>match β.o p with | some (c,s)=>(match idx ids c with | some _=>none | none=>some (c,s)) | none=>none)=some κ:=hp
  cases hq:β'.o p with
  | some κ'=>
   obtain ⟨j,s⟩:=κ'
   rw[hq]at hp'
   simp at hp'
   exact .inl ⟨j,s,rfl,hp'.symm⟩
  | none=>
   rw[hq]at hp'
   simp only at hp'
   split at hp'
   . rename_i c s hc
     split at hp'
     . cases hp'
     . rename_i hi
       simp at hp'
       exact .inr ⟨rfl,c,s,hc,hi,hp'.symm⟩
   . cases hp'
 have hblk : ∀ j k,BlkOk F' w' β' j k->BlkOk F' w' βM (bk ids n j) (k.mapB (zjH ids n)):=fun j k hok=>by
  have hoo : ∀ p s,β'.o p=some (j,s)->βM.o p=some (bk ids n j,s):=fun p s hp=>by
   show(match β'.o p with | some (j,s)=>some (bk ids n j,s) | none=>_)=_
   rw[hp]
  cases k with
  | cells e cs=>
   obtain ⟨ys,T,h1,h2,h3,h4⟩:=hok
   exact⟨ys,T,by rw[(hat j).1];exact h1,by simpa using h2,by rw[(hat j).1];exact hoo _ _ h3,hmaps h4⟩
  | row e t cols hole xs=>
   obtain ⟨Vs,h1,h2,h3,h4⟩:=hok
   exact⟨Vs,by rw[(hat j).2];exact h1,h2,fun p hp=>by rw[(hat j).2]at hp;exact hoo _ _ (h3 p hp),fun i' j' hi' hj'=>(h4 i' j' hi' hj').mapB (zaO (fun _ h=>h) w') (fun b c hb hc=>by
    rw[zu5]at hc
    simp at hc
    subst hc
    exact⟨.inr ⟨b,hb,rfl⟩,(hat b).2⟩) fun p hp=>⟨hoo _ _ hp,rfl⟩⟩
  | ro t xs=>show D F' w' _ _;rw[(hat j).2];exact hok
  | rob t x=>show D F' w' _ _;rw[(hat j).1];exact hok
  | map k v cols es=>
   obtain ⟨Es,clock,h1,h2,h3,h4,h5⟩:=hok
   exact⟨Es,clock,by rw[(hat j).1];exact h1,h2,by rw[(hat j).1];exact hoo _ _ h3,h4,fun i' hi'=>(h5 i' hi').turn (zaO (fun _ h=>h) w') (fun _=>.nil) (fun h=>h) fun p hp=>⟨hoo _ _ hp,rfl⟩⟩
  | rom k v es=>show D F' w' _ _;rw[(hat j).1];exact hok
  | dead=>trivial
 let s:=zjH ids n
 obtain ⟨l1,l2⟩:=zib ids ((an.hp.take ids.length).map (Blk.mapB s)) st.heap hn (by simp;omega) hlt
 have hheap:(st.adopt ids an.hp).heap=zfN st.heap ids ((an.hp.take ids.length).map (Blk.mapB s))++(an.hp.drop ids.length).map (Blk.mapB s):=rfl
 have hHOk : HOk F' w' βM (st.adopt ids an.hp).heap:=by
  refine⟨k6.fb,fun c k hc=>?_,fun p κ hp=>?_,fun p κ hp hF=>?_,fun c hc=>?_⟩
  . rw [hheap]at hc
    by_cases hcn:c<n
    . rw [List.getElem?_append_left (by rw[l1];exact hcn),l2 c]at hc
      cases hi:idx ids c with
      | some j=>
       rw[hi]at hc
       obtain ⟨q1,q2⟩:=zcv hi
       simp[List.getElem?_map,List.getElem?_take,q1]at hc
       obtain ⟨k0,hk0,rfl⟩:=hc
       have:=hblk j k0 (k6.blk j k0 hk0)
       rwa [show bk ids n j=c by unfold bk;rw[if_pos q1];exact q2]at this
      | none=>
       rw[hi]at hc
       have hold:=h.heap.blk c k hc
       refine hold.mono hE hle ⟨?_,?_⟩ (fun p s' hp=>?_)
       . show(match idx ids c with | some j=>β'.b j | none=>if c<n then β.b c else _)=_
         rw[hi];simp only;rw[if_pos hcn]
       . show(match idx ids c with | some j=>β'.v j | none=>if c<n then β.v c else _)=_
         rw[hi];simp only;rw[if_pos hcn]
       . have hso:(β.sub ids).o p=none:=by
          cases hq:(β.sub ids).o p with
          | none=>rfl
          | some κ=>
           obtain ⟨b,h1,h2⟩:=sub_o.1 hq
           rw[hp]at h1
           simp at h1
           rw[← h1.1,hi]at h2
           cases h2
         have hpl:=h.heap.lt p _ hp
         have hbo:β'.o p=none:=by
          cases hq:β'.o p with
          | none=>rfl
          | some κ=>
           rcases k4 p κ hq with h1 | h1
           . exact absurd hso h1
           . omega
         refine⟨?_,k1.block p hpl (fun hq=>hq hso)⟩
         show(match β'.o p with | some (j,s)=>some (bk ids n j,s) | none=>match β.o p with | some (c,s)=>(match idx ids c with | some _=>none | none=>some (c,s)) | none=>none)=_
         rw[hbo,hp];simp only;rw[hi]
    . rw[List.getElem?_append_right (by rw[l1];exact Nat.le_of_not_lt hcn),l1]at hc
      simp[List.getElem?_map,List.getElem?_drop]at hc
      obtain ⟨k0,hk0,rfl⟩:=hc
      have:=hblk _ k0 (k6.blk _ k0 hk0)
      rwa [show bk ids n (ids.length+(c-st.heap.length))=c by unfold bk;rw[if_neg (by omega)];omega]at this
  . rcases ho p κ hp with ⟨j,s',h1,_⟩ | ⟨_,c,s',h1,_⟩
    . exact k6.lt p _ h1
    . exact Nat.lt_of_lt_of_le (h.heap.lt p _ h1) k1.size
  . rcases ho p κ hp with ⟨j,s',h1,_⟩ | ⟨_,c,s',h1,hi,_⟩
    . exact k6.sep p _ h1 hF
    . rcases k3 p hF with h2 | h2 | h2
      . exact h.heap.sep p _ h1 h2
      . obtain ⟨b,s2,q1,j,q2⟩:=hsub p h2
        rw[h1]at q1
        simp at q1
        rw[← q1.1,hi]at q2
        cases q2
      . have:=h.heap.lt p _ h1;omega
  . rw [hheap]
    simp only[List.length_append,l1,List.length_map,List.length_drop]
    rcases hc with hc | ⟨j,hj,rfl⟩
    . have:=h.heap.live c hc;omega
    . have hjl:=k6.live j hj
      unfold bk
      by_cases h':j<ids.length
      . rw[if_pos h']
        have:=hlt (ids.getD j 0) (by simp[List.getD,h'])
        omega
      . rw[if_neg h'];omega
 refine⟨F',βM,?_,hmap 9 k7⟩
 refine h.heapTo (hp:=(st.adopt ids an.hp).heap) hE hle (h.kept.trans k1 (fun _ h=>h) (fun p hp=>?_)) (fun p hp=>?_) k2 (fun p κ hp=>?_) (fun b hb=>?_) ?_ hHOk
 . obtain ⟨b,s',h1,_⟩:=hsub p hp
   exact h.lo p _ h1
 . rcases k3 p hp with h1 | h1 | h1
   . exact h.fo p h1
   . obtain ⟨b,s',h2,_⟩:=hsub p h1
     exact .inr (h.lo p _ h2)
   . exact .inr (.inr (Nat.le_trans h.kept.size h1))
 . rcases ho p κ hp with ⟨j,s',h1,_⟩ | ⟨_,c,s',h1,_⟩
   . rcases k4 p _ h1 with h2 | h2
     . obtain ⟨b,s2,h3,_⟩:=hsub p h2
       exact h.lo p _ h3
     . exact .inr (Nat.le_trans h.kept.size h2)
   . exact h.lo p _ h1
 . rcases hb with hb | ⟨j,hj,rfl⟩
   . exact .inl hb
   . unfold bk
     rcases k8 j hj with h1 | h1
     . rw[if_pos h1.1];exact .inl h1.2
     . rw[if_neg (by omega)];exact .inr (by omega)
 . rw[hheap,List.length_append,l1];omega
def znY(F:Nat->Prop)(β:Gh)(p:Nat):Prop:=F p ∨ ∃ κ,β.o p=some κ
theorem zhd{f:AV->Option AV} : ∀ {cs cs':List AV},zmy f cs=some cs'->cs'.length=cs.length/\∀ j,j<cs.length->f (cs.getD j .undef)=some (cs'.getD j .undef)
 | [],cs',h=>by simp[zmy]at h;subst h;simp
 | c :: cs,cs',h=>by
  simp only[zmy]at h
  split at h
  . rename_i y ys hy hys
    simp at h;subst h
    obtain ⟨h1,h2⟩:=zhd hys
    refine⟨by simp[h1],fun j hj=>?_⟩
    cases j with
    | zero=>simpa using hy
    | succ j=>simpa using h2 j (by simpa using hj)
  . cases h
theorem zfO (hh:HOk F w β st.heap) : ∀ (n:Nat) {x x':AV} {y:Value},V F w β x y->st.snap n x=some x'->D (znY F β) w x' y
 | 0,x,x',y,_,hs=>by simp[St.snap]at hs
 | n + 1, x,x',y,h,hs=>by
  have hw : ∀ {x:AV} {y:Value},V F w β x y->zc7 x->D (znY F β) w x y:=fun h hp=>(h.toD hp).wide fun k hk=>.inl hk
  have lst : ∀ {cs cs':List AV} {Y:Nat->Value},(∀ j,j<cs.length->V F w β (cs.getD j .undef) (Y j))->zmy (st.snap n) cs=some cs'->cs'.length=cs.length/\∀ j,j<cs'.length->D (znY F β) w (cs'.getD j .undef) (Y j):=fun hv hm=>by
   obtain ⟨h1,h2⟩:=zhd hm
   exact⟨h1,fun j hj=>zfO hh n (hv j (by omega)) (h2 j (by omega))⟩
  simp only[St.snap]at hs
  split at hs
  . simp at hs;subst hs;exact hw h (.v _)
  . simp at hs;subst hs;exact hw h (.sl _ _)
  . simp at hs;subst hs;exact hw h (.op _ _)
  . simp at hs;subst hs;exact hw h (.clo _)
  . simp at hs;subst hs;exact hw h .any
  . rename_i t xs i
    simp at hs;subst hs
    obtain ⟨b,o,Y,hi,rfl,hF,hb,hc,hd⟩:=ztL (hw h (.el _ _ _ _))
    exact .op _ _ b o Y hF hb hc hd
  . rename_i b
    obtain ⟨_,rfl,_⟩:=zdw h
    split at hs
    . rename_i e t cols xs hb
      simp at hs;subst hs
      have hk:=hh.blk b _ hb
      exact zzr hk (fun k hk=>.inl hk) (fun p s hp=>.inr ⟨_,hp⟩)
    . rename_i t xs hb
      simp at hs;subst hs
      exact(show D F w (.sl t xs) (β.v b)from hh.blk b _ hb).wide fun k hk=>.inl hk
    . cases hs
  . simp at hs;subst hs;exact hw h (.mp _ _ _)
  . rename_i b
    obtain ⟨_,rfl⟩:=ztM h
    split at hs
    . rename_i k v cols es hb
      cases hs
      exact zFl (hh.blk b _ hb) (fun k hk=>.inl hk) (fun p s hp=>.inr ⟨_,hp⟩)
    . rename_i k v es hb
      cases hs
      exact(show D F w (.mp k v es) (.map (some (β.b b)))from hh.blk b _ hb).wide fun k hk=>.inl hk
    . cases hs
  . rename_i b
    obtain ⟨_,rfl⟩:=zhC h
    split at hs
    . rename_i e cs hb
      split at hs
      . rename_i t cs' ht hcs
        split at hs
        . rename_i x' hd
          simp at hs;subst hs
          obtain ⟨ys,T,g1,g2,g3,g4⟩:=hh.blk b _ hb
          obtain ⟨l1,l2⟩:=lst g4 hcs
          obtain ⟨e1,e3⟩:=zbm (F:=znY F β) (w:=w) (β:=Gh.nil) hd
          refine .op t x' (β.b b) 0 (fun j=>ys.getD j undef) (.inr ⟨_,g3⟩) (Array.getElem?_eq_some_iff.1 g1).1 (fun j hj=>?_) (fun j hj=>e3 j _ (by omega) (l2 j (by omega)))
          have hj':j<ys.size:=by omega
          rw[Nat.zero_add,cell_of_row w (β.b b) j ys T (0,0) g1]
          simp[Array.getD,hj']
        . cases hs
      . cases hs
    . rename_i t x' hb
      simp at hs;subst hs
      exact(show D F w (.op t (some x')) _ from hh.blk b _ hb).wide fun k hk=>.inl hk
    . cases hs
  . split at hs
    . rename_i cs _ cs' hcs
      simp at hs;subst hs
      obtain ⟨ys,rfl,hl,hc⟩:=ziy h
      obtain ⟨l1,l2⟩:=lst hc hcs
      exact .agg _ _ (by omega) l2
    . cases hs
  . split at hs
    . rename_i f fa fc _ _ a' c' ha hc'
      simp at hs;subst hs
      cases h with
      | fn _ _ _ ya yc hla hlc hva hvc=>
       obtain ⟨l1,l2⟩:=lst hva ha
       obtain ⟨l3,l4⟩:=lst hvc hc'
       exact .fn _ _ _ _ _ (by omega) (by omega) l2 l4
    . cases hs
  . split at hs
    . rename_i t x _ x'' hx
      simp at hs;subst hs
      cases h with
      | ifc _ _ _ h=>exact .ifc _ _ _ (zfO hh n h hx)
    . cases hs
  . cases hs
theorem zmc{t:Ty}(h:t.flat=true)(x:t.T) : ∀ j,j<t.sz->∃ v,(t.enc x).getD j .undef=.v v:=by
 cases t <;> first | (simp[Ty.flat]at h;done) | skip
 all_goals
  intro j hj
  have hj':=hj
  simp only[Ty.sz]at hj'
  repeat (first | (exfalso;omega) | (cases j with
   | zero=>exact⟨_,rfl⟩
   | succ j=>?_))
  all_goals (exfalso;omega)
theorem zup(t:Ty):t.leaves.length=t.sz:=by cases t <;> rfl
theorem zoM{cols:List (Nat × TypeId)} : ∀ {k:Nat} {l:List Ty},zse cols k l=true->∀ j,j<l.length->zoL (zaA cols (k+j)) (l.getD j .b)=true
 | _,[],_,j,hj=>by simp at hj
 | k,x :: r,h,j,hj=>by
  simp only[zse]at h
  split at h
  . rename_i h1
    cases j with
    | zero=>simpa using h1
    | succ j=>
     have:=zoM h j (by simpa using hj)
     rw[show k+1+j=k+(j+1)by omega]at this
     simpa using this
  . cases h
theorem zHS{t:Ty}{x:t.T}{j:Nat}(h:zoL none (t.leaves.getD j .b)=true)(hj:j<t.sz):((t.enc x).getD j .undef).noF 1=true:=by
 cases t <;> simp only[Ty.sz]at hj
 all_goals
  repeat (first | (exfalso;omega) | (cases j with
   | zero=>first | rfl | (simp[Ty.leaves,zoL]at h;done)
   | succ j=>?_))
  all_goals (exfalso;omega)
theorem zDO{t:Ty}{x:t.T}{j:Nat}{e:TypeId}(h:zoL (some e) (t.leaves.getD j .b)=true)(hj:j<t.sz){t3:Ty}{ys:List t3.T}(hx:(t.enc x).getD j .undef=.sl t3 ys):t3.flat=true:=by
 cases t <;> simp only[Ty.sz]at hj
 all_goals
  repeat (first | (exfalso;omega) | (cases j with
   | zero=>first | (cases hx;exact h) | (cases hx;done) | (simp[Ty.leaves,zoL]at h;done)
   | succ j=>?_))
  all_goals (exfalso;omega)
theorem zr0{t:Ty}(h:t.flat=true)(x:t.T):(zbU t x).noF 9=true:=by
 have h1:=zmc h x
 unfold zbU
 split
 . show(t.enc x).all (AV.noF 8)=true
   rw[List.all_eq_true]
   intro c hc
   obtain ⟨j,hj,rfl⟩:=List.getElem_of_mem hc
   obtain ⟨v,hv⟩:=h1 j (by rw[← zaj t x];exact hj)
   have e:(t.enc x)[j]=.v v:=by simpa [List.getD,hj]using hv
   rw[e];rfl
 . obtain ⟨v,hv⟩:=h1 0 (zbw t)
   rw[hv];rfl
theorem zxQ{e:TypeId}{v:Ty}{x:v.T}{t3:Ty}{ys:List t3.T}(h:mapF (some e) v=true)(hx:zbU v x=.sl t3 ys):t3.flat=true:=by
 cases v <;> first | (cases h;done) | (cases hx;exact h)
theorem zu6{F':Nat->Prop}{w':World}{β':Gh}{b:Nat}{k:Blk}(h:BlkOk F' w' β' b k)(hk:k.noF=true):BlkOk F w' β' b k:=by
 cases k with
 | cells e cs=>
  obtain ⟨ys,T,h1,h2,h3,h4⟩:=h
  refine⟨ys,T,h1,h2,h3,fun j hj=>zgr 9 (h4 j hj) ?_⟩
  have:=List.all_eq_true.1 (show cs.all (AV.noF 9)=true from hk) (cs[j]) (List.getElem_mem hj)
  simpa [List.getD,hj]using this
 | row e t cols hole xs=>
  obtain ⟨Vs,h1,h2,h3,h4⟩:=h
  refine⟨Vs,h1,h2,h3,fun i j hi hj=>?_⟩
  have hcl:=h4 i j hi hj
  have hf:=zoM (show zse cols 0 t.leaves=true from hk) j (by rw[zup];exact hj)
  rw[Nat.zero_add]at hf
  unfold CellOk at hcl ⊢
  cases hc:zaA cols j with
  | none=>
   rw[hc]at hcl hf
   simp only at hcl ⊢
   exact zgr 1 hcl (zHS (x:=nth xs i) hf hj)
  | some e'=>
   rw[hc]at hcl hf
   refine⟨hcl.1,hcl.2.imp id ?_⟩
   rintro ⟨t3,ys,Ws,q1,q2,q3,q4,q5⟩
   refine⟨t3,ys,Ws,q1,q2,q3,q4,fun k m hk hm=>?_⟩
   obtain ⟨v,hv⟩:=zmc (zDO hf hj q1) (nth ys k) m hm
   have:=q5 k m hk hm
   rw[hv]at this ⊢
   rw[V_v this]
   exact .v _
 | ro t xs=>simp[Blk.noF]at hk
 | rob t x=>simp[Blk.noF]at hk
 | map k v cols es=>
  obtain ⟨Es,clock,h1,h2,h3,h4,h5⟩:=h
  simp only[Blk.noF,Bool.and_eq_true]at hk
  refine⟨Es,clock,h1,h2,h3,fun i hi=>zgr 9 (h4 i hi) (zr0 hk.1 _),fun i hi=>?_⟩
  have h5:=h5 i hi
  have hk:=hk.2
  unfold CellOk at h5 ⊢
  split at h5
  . rename_i hc
    rw[hc]at hk
    exact zgr 9 h5 (zr0 hk _)
  . rename_i e' hc
    rw[hc]at hk
    refine⟨h5.1,h5.2.imp id ?_⟩
    rintro ⟨t3,ys,Ws,q1,q2,q3,q4,q5⟩
    refine⟨t3,ys,Ws,q1,q2,q3,q4,fun k' m hk' hm=>?_⟩
    have hfl:t3.flat=true:=zxQ hk q1
    obtain ⟨v',hv'⟩:=zmc hfl (nth ys k') m hm
    have:=q5 k' m hk' hm
    rw[hv']at this ⊢
    rw[V_v this]
    exact .v _
 | rom k v es=>simp[Blk.noF]at hk
 | dead=>trivial
theorem zCt{P:Program}{fv:AV}{args as:List AV}{n:FuncId}:target P fv args ≠ some (.a n,as):=fun h=>by
 unfold target at h
 split at h
 . simp at h
 . split at h <;> simp at h
 . simp at h
 . split at h <;> simp at h
 . cases h
def Ent(P:Program)(F:Nat->Prop)(w:World)(β:Gh)(y:Value)(vs:Array Value)(f:Cal)(as:List AV):Prop:=
 match f with
 | .f n=>zip P n->zyH P F w β y vs n as
 | .a n=>zip P n->zyH P F w β y vs n as
 | .c x=>V F w β x.out y/\vs.size=as.length/\∀ j,j<as.length->V F w β (as.getD j .undef) (vs.getD j undef)
theorem Ent.map{F1:Nat->Prop}{w1:World}{β1:Gh}{y:Value}{vs:Array Value}{f:Cal}{as as':List AV}(h:Ent P F w β y vs f as)(hl:as'.length=as.length)
 (hm : ∀ Y:Nat->Value,(∀ j,j<as.length->V F w β (as.getD j .undef) (Y j))->∀ j,j<as'.length->V F1 w1 β1 (as'.getD j .undef) (Y j)) (hp : ∀ {x:AV} {y:Value},D F w x y->D F1 w1 x y):Ent P F1 w1 β1 y vs f as':=by
 cases f with
 | f n=>
  intro hn
  obtain ⟨us,h1,h2,h3⟩:=h hn
  exact⟨us,h1,h2.trans hl.symm,hm _ h3⟩
 | a n=>
  intro hn
  obtain ⟨us,h1,h2,h3⟩:=h hn
  exact⟨us,h1,h2.trans hl.symm,hm _ h3⟩
 | c x=>
  obtain ⟨h1,h2,h3⟩:=h
  exact⟨(hp (h1.toD (zst x))).ofD,h2.trans hl.symm,hm (fun j=>vs.getD j undef) h3⟩
theorem Ent.enter{C:FuncId->Array Value->World->(Ending->World->Prop)->Prop}{y:Value}{vs:Array Value}{f:Cal}{as:List AV}{hp:List Blk}{an:Ans}(h:Ent P F w β y vs f as)(ho:zGk C P GL f as hp an) :
 ∃ (n:FuncId) (us:List Value) (as':List AV),(∀ w':World,(do let d ← Deferred.ofValue y vs;invoke d.target d.args:Sem Next).run P w'=.ok (.enter n us.toArray) w')/\us.length=as'.length/\
  (∀ j,j<as'.length->V F w β (as'.getD j .undef) (us.getD j undef))/\zrA C GL n as' hp an:=by
 cases f with
 | f n=>
  obtain ⟨h1,h2⟩:=ho
  obtain ⟨us,g1,g2,g3⟩:=h h1
  exact⟨n,us,as,g1,g2,g3,h2⟩
 | a n=>
  obtain ⟨h1,h2⟩:=ho
  obtain ⟨us,g1,g2,g3⟩:=h h1
  exact⟨n,us,as,g1,g2,g3,h2⟩
 | c x=>
  obtain ⟨n,as',h1,h2,h3⟩:=ho
  obtain ⟨k1,k2,k3⟩:=h
  obtain ⟨us,g1,g2,g3⟩:=zlm k1 k2 k3 h1 h2
  exact⟨n,us,as',g1,g2,g3,h3⟩
theorem znN{fv:AV}{y:Value}{vs:Array Value}{args as:List AV}{f:Cal}(hf:V F w β fv y)(hl:vs.size=args.length)(hv : ∀ j,j<args.length->V F w β (args.getD j .undef) (vs.getD j undef))(ht:target P fv args=some (f,as)):Ent P F w β y vs f as:=by
 cases f with
 | f n=>exact fun hn=>zlm hf hl hv ht hn
 | a n=>exact absurd ht zCt
 | c x=>
  obtain ⟨rfl,rfl⟩:=zCu ht
  cases hf with
  | clo _ _ h=>exact⟨h,hl,hv⟩
theorem GlOk.imp{F':Nat->Prop}(h:GlOk GL F w)(hs : ∀ p,F p->F' p):GlOk GL F' w:=fun g=>(h g).wide hs
def ztH(C:FuncId->Array Value->World->(Ending->World->Prop)->Prop)(P:Program){α:Type}(B:Bs)(st:St)(a:Act)(w:World)(y:Value)(vs:Array Value)(k:AV->St->Option α)(r:α):Prop:=
 ∃ (n:FuncId) (us:List Value),(∀ w':World,(do let d ← Deferred.ofValue y vs;invoke d.target d.args:Sem Next).run P w'=.ok (.enter n us.toArray) w')/\
  C n us.toArray w fun e w'=>∃ z,e=.returned z/\∃ F' β' x st',Rel B F' β' st' a w'/\Al st st'/\st'.env=st.env/\st'.df=st.df/\V F' w' β' x z/\k x st'=some r
theorem zlY(st:St)(ids:List Nat)(hp:List Blk)(hn:ids.Nodup)(hlt : ∀ b,b ∈ ids->b<st.heap.length)(hk:ids.length<=hp.length):Al st (st.adopt ids hp):=by
 refine⟨rfl,rfl,?_⟩
 obtain ⟨l1,_⟩:=zib ids ((hp.take ids.length).map (Blk.mapB (zjH ids st.heap.length))) st.heap hn (by simp;omega) hlt
 show st.heap.length<=(zfN st.heap ids _++_).length
 rw[List.length_append,l1]
 omega
def zpO(F:Nat->Prop)(β:Gh)(ids:List Nat)(p:Nat):Prop:=F p ∨ ∃ b s,β.o p=some (b,s)/\b ∉ ids
theorem zoP(hh:HOk F w β st.heap){ids:List Nat}{x:AV}{y:Value}(h:V F w β x y)(hb : ∀ b,x=.own b->b ∉ ids):V (zpO F β ids) w β (st.mixA x) y:=by
 have hw:V (zpO F β ids) w β x y:=h.wide fun k hk=>.inl hk
 unfold St.mixA
 split
 . rename_i b
   split
   . rename_i e t cols xs hk
     obtain ⟨_,rfl,_⟩:=zdw h
     exact(zzr (hh.blk b _ hk) (fun k hk=>.inl hk) (fun p s hp=>.inr ⟨b,s,hp,hb b rfl⟩)).ofD
   . exact hw
 . exact hw
theorem zuv(hh:HOk F w β st.heap){ids:List Nat}{x:AV}{y:Value}(h:V F w β x y)(hb:mixH ids x=true)(hm : ∀ {b:Nat},(!zfH b ids)=true->b ∉ ids):V (zpO F β ids) w β (st.mixG x) y:=by
 have hw:V (zpO F β ids) w β x y:=h.wide fun k hk=>.inl hk
 unfold St.mixG
 split
 . rename_i cs
   cases h with
   | agg _ ys hl h=>
    refine .agg _ ys (by simpa using hl) fun j hj=>?_
    have hj':j<cs.length:=by simpa using hj
    have e1:(cs.map st.mixA).getD j .undef=st.mixA (cs.getD j .undef):=by simp[List.getD,hj']
    rw[e1]
    have hb3:=List.all_eq_true.1 (show cs.all (zHZ ids)=true from hb) (cs.getD j .undef) (by simp[List.getD,hj'])
    exact zoP hh (h j hj') fun b hb=>hm (by rw[hb]at hb3;exact hb3)
 . exact hw
theorem zi0{R α:Type}{o:Option R}{k:R->Option α}{z:Option α}{r:α}(h:orB o k z=some r):(∃ x,o=some x/\k x=some r) ∨ (o=none/\z=some r):=by
 cases o with
 | none=>exact .inr ⟨rfl,h⟩
 | some x=>exact .inl ⟨x,rfl,h⟩
theorem zue{G:Gam}{f:Cal}{as:List AV}{y:Rsp × List Nat}(h:zAx G st f as=some y) : ∃ g q,zqp g q G st f as=some y/\∀ {F:Nat->Prop} {w:World} {β:Gh} {ids:List Nat} {x:AV} {v:Value},HOk F w β st.heap->V F w β x v->q ids x=true->(∀ {b:Nat},(!zfH b ids)=true->b ∉ ids)->V (zpO F β ids) w β (g x) v:=by
 unfold zAx at h
 split at h
 . rename_i y' hy
   cases h
   exact⟨_,_,hy,fun hh hv hq hm=>zuv hh hv hq hm⟩
 . exact⟨_,_,h,fun {F w β ids x v} hh hv hq hm=>zoP hh hv fun b hb=>hm (by rw[hb]at hq;exact hq)⟩
theorem zhD {C:FuncId->Array Value->World->(Ending->World->Prop)->Prop} (hC : ∀ {f args w R R'},C f args w R->(∀ e w',R e w'->R' e w')->C f args w R') {α:Type} (hG:zrx C P GL G) (h:Rel B F β st a w) (hgl:st.gl=GL) {f:Cal} {as:List AV} {k:AV->St->Option α} {z:Option α} {r:α} (hr:evCall1 G st f as k z=some r) {y:Value} {vs:Array Value} (he:Ent P F w β y vs f as):ztH C P B st a w y vs k r ∨ z=some r:=by
 unfold evCall1 at hr
 have hglk:GlOk GL F w:=fun g=>by rw[← hgl];exact h.gl g
 split at hr
 . rename_i q hq
   rcases zi0 hr with hr | ⟨_,hr⟩
   rotate_left
   . exact .inr hr
   obtain ⟨x,hx,hr⟩:=hr
   split at hr
   rotate_left
   . cases hr
   rename_i hno
   refine .inl ?_
   split at hq
   . rename_i as1 has
     split at hq
     . rename_i q' hg
       split at hq
       . cases hq
         revert hr hno
         generalize he':q.to x=an
         obtain ⟨r',hp'⟩:=an
         intro hno hr
         simp only[zxU,Bool.and_eq_true,List.all_eq_true]at hno
         replace hno:=hno.1
         obtain ⟨m1,m2⟩:=zhd has
         have hent:Ent P (znY F β) w Gh.nil y vs f as1:=he.map m1 (fun Y hY j hj=>zfO h.heap 9 (hY j (by omega)) (m2 j (by omega))) (fun hd=>hd.wide fun p hp=>.inl hp)
         obtain ⟨n,us,as',e1,e2,e3,e4⟩:=hent.enter (hG _ _ _ _ hg x hx)
         rw[he']at e4
         refine⟨n,us,e1,?_⟩
         have hH:HOk (znY F β) w Gh.nil []:=⟨fun p hp=>by
          rcases hp with hp | ⟨κ,hp⟩
          . exact h.heap.fb p hp
          . exact h.heap.lt p κ hp,fun b k hb=>by simp at hb,fun p κ hp=>by simp[Gh.nil]at hp,fun p κ hp=>by simp[Gh.nil]at hp,fun b hb=>hb.elim⟩
         refine hC (e4 (znY F β) w Gh.nil us hH (hglk.imp fun p hp=>.inl hp) e2 e3) fun e w' ⟨z,hz,F',β',k1,k2,k3,k4,k5,k8,k6,k7⟩=>⟨z,hz,?_⟩
         have hF'' : ∀ p,F p->p<w'.heap.size:=fun p hp=>Nat.lt_of_lt_of_le (h.heap.fb p hp) k1.size
         have haft:Aft F w (β.sub []) 0 ⟨r',hp'⟩ z w':=by
          have hs : ∀ p,(β.sub []).o p=none:=fun p=>by
           cases hq:(β.sub []).o p with
           | none=>rfl
           | some κ=>obtain ⟨b,_,h2⟩:=sub_o.1 hq;simp[idx]at h2
          refine⟨F,β',⟨k1.os,k1.tape,k1.output,k1.size,fun p hp _=>k1.block p hp (fun h=>h rfl)⟩,fun _ h=>h,fun p hp=>.inl hp,fun p κ hp=>?_,fun b hb=>absurd hb.1 (Nat.not_lt_zero _),fun _ _=>.inr (Nat.zero_le _),⟨hF'',fun b kb hb=>?_,k6.lt,fun p κ hp hF=>?_,k6.live⟩,zgr 9 k7 hno.1⟩
          . rcases k4 p κ hp with h1 | h1
            . exact absurd rfl h1
            . exact .inr h1
          . exact zu6 (k6.blk b kb hb) (hno.2 kb (List.mem_of_getElem? hb))
          . exact k6.sep p κ hp (k2 p (.inl hF))
         obtain ⟨F2,β2,q1,q2⟩:=h.adopt (ids:=[]) List.nodup_nil (fun b hb=>by cases hb) (Nat.zero_le _) haft
         exact⟨F2,β2,_,_,q1,zlY st [] hp' List.nodup_nil (fun b hb=>by cases hb) (Nat.zero_le _),rfl,rfl,q2,hr⟩
       . cases hq
     . cases hq
   . cases hq
 . have pass : ∀ (as2:List AV) (st2:St) (F1:Nat->Prop) (β1:Gh),Frz B F β st a w F1 β1 st2->as2.length=as.length->
    (∀ Y:Nat->Value,(∀ j,j<as.length->V F w β (as.getD j .undef) (Y j))->∀ j,j<as.length->V F1 w β1 (as2.getD j .undef) (Y j))->
    evCall1.evPass G st2 (zcZ st2.heap 4000 [] (zbT as2)) f as2 k z=some r->ztH C P B st a w y vs k r ∨ z=some r:=fun as2 st2 F1 β1 z1 zl zd hr=>by
    unfold evCall1.evPass at hr
    generalize hids:zcZ st2.heap 4000 [] (zbT as2)=ids at hr
    split at hr
    . rename_i q hok hg
      rcases zi0 hr with hr | ⟨_,hr⟩
      rotate_left
      . exact .inr hr
      obtain ⟨x,hx,hr⟩:=hr
      split at hr
      . rename_i hle
        refine .inl ?_
        revert hr hle
        generalize he':q.to x=an
        obtain ⟨rv,hp⟩:=an
        intro hle hr
        simp only[Bool.and_eq_true,List.all_eq_true]at hok
        have hn:=nodupB_iff.1 hok.1
        have hlt : ∀ b,b ∈ ids->b<st2.heap.length:=fun b hb=>by simpa using hok.2 b hb
        have hk:=Nat.le_of_ble_eq_true hle
        have hent:Ent P F1 w (β1.sub ids) y vs f (as2.map (AV.mapB (idx ids) 9)):=he.map (by simpa using zl) (fun Y hY j hj=>by
         have hj':j<as2.length:=by simpa using hj
         exact zrm (fun j hj=>zd Y hY j (by omega)) 9 j (by simpa [zl]using hj)) (fun hd=>hd.wide z1.sub)
        obtain ⟨n,us,as',e1,e2,e3,e4⟩:=hent.enter (hG _ _ _ _ hg x hx)
        rw[he']at e4
        refine⟨n,us,e1,?_⟩
        refine hC (e4 F1 w (β1.sub ids) us (z1.rel.heap.sub hn) (fun g=>(hglk g).wide z1.sub) e2 e3) fun e w' ⟨z,hz,ha⟩=>⟨z,hz,?_⟩
        rw[show(zbE st2.heap ids).length=ids.length by simp[zbE]]at ha
        obtain ⟨F2,β2,q1,q2⟩:=z1.rel.adopt hn hlt hk ha
        exact⟨F2,β2,_,_,q1,z1.al.trans (zlY st2 ids hp hn hlt hk),z1.env,z1.df,q2,hr⟩
      . cases hr
    . cases hr
   split at hr
   . exact pass as st F β (Frz.refl h) rfl (fun Y hY=>hY) hr
   . split at hr
     . rename_i y0 ids hmix
       rcases zi0 hr with hr | ⟨_,hr⟩
       rotate_left
       . exact .inr hr
       obtain ⟨x,hx,hr⟩:=hr
       split at hr
       rotate_left
       . cases hr
       rename_i hno
       refine .inl ?_
       obtain ⟨g,q,hmix,hgq⟩:=zue hmix
       unfold zqp at hmix
       dsimp only at hmix
       generalize hids:zcZ st.heap 4000 [] (zbT (as.map g))=ids' at hmix
       split at hmix
       . rename_i y1 hok hg
         split at hmix
         . simp at hmix;obtain ⟨rfl,rfl⟩:=hmix
           revert hr hno
           generalize he':y1.to x=an
           obtain ⟨r',hp'⟩:=an
           intro hno hr
           simp only[zxU,Bool.and_eq_true,List.all_eq_true]at hno hok
           obtain ⟨⟨hok1,hok2⟩,hok3⟩:=hok
           have hn:=nodupB_iff.1 hok1
           have hlt : ∀ b,b ∈ ids'->b<st.heap.length:=fun b hb=>by simpa using hok2 b hb
           have hk:=Nat.le_of_ble_eq_true hno.2
           have hmem : ∀ {b:Nat},(!zfH b ids')=true->b ∉ ids':=fun {b} hb hm=>by rw[hasN_iff.2 hm]at hb;cases hb
           have hent:Ent P (zpO F β ids') w (β.sub ids') y vs f ((as.map g).map (AV.mapB (idx ids') 9)):=he.map (by simp) (fun Y hY j hj=>by
            refine zrm (F:=zpO F β ids') (fun j hj=>?_) 9 j hj
            have hj':j<as.length:=by simpa using hj
            have e2:(as.map g).getD j .undef=g (as.getD j .undef):=by simp[List.getD,hj']
            rw[e2]
            exact hgq h.heap (hY j hj') (hok3 (as.getD j .undef) (by simp[List.getD,hj'])) hmem) (fun hd=>hd.wide fun p hp=>.inl hp)
           obtain ⟨n,us,as',e1,e2,e3,e4⟩:=hent.enter (hG _ _ _ _ hg x hx)
           rw[he']at e4
           refine⟨n,us,e1,?_⟩
           have hH0:=h.heap.sub (ids:=ids') hn
           have hH:HOk (zpO F β ids') w (β.sub ids') (zbE st.heap ids'):=⟨fun p hp=>by
            rcases hp with hp | ⟨b,s,hp,_⟩
            . exact h.heap.fb p hp
            . exact h.heap.lt p _ hp,fun b k hb=>(hH0.blk b k hb).mono (zaO (fun p hp=>.inl hp) w) (.refl _) ⟨rfl,rfl⟩ (fun p s hp=>⟨hp,rfl⟩),hH0.lt,fun p κ hp hF=>by
              rcases hF with hF | ⟨b,s,hb,hni⟩
              . exact hH0.sep p κ hp hF
              . obtain ⟨b',h1,h2⟩:=sub_o.1 hp
                rw[hb]at h1
                simp only[Option.some.injEq,Prod.mk.injEq]at h1
                obtain ⟨g1,g2⟩:=zcv h2
                exact hni (by rw[h1.1,← g2];simp[List.getD,g1]),hH0.live⟩
           refine hC (e4 (zpO F β ids') w (β.sub ids') us hH (hglk.imp fun p hp=>.inl hp) e2 e3) fun e w' ⟨z,hz,F',β',k1,k2,k3,k4,k5,k8,k6,k7⟩=>⟨z,hz,?_⟩
           rw[show(zbE st.heap ids').length=ids'.length by simp[zbE]]at k8
           have hF'' : ∀ p,F p->p<w'.heap.size:=fun p hp=>Nat.lt_of_lt_of_le (h.heap.fb p hp) k1.size
           have haft:Aft F w (β.sub ids') ids'.length ⟨r',hp'⟩ z w':=⟨F,β',k1,fun _ h=>h,fun p hp=>.inl hp,k4,k5,k8,⟨hF'',fun b kb hb=>zu6 (k6.blk b kb hb) (hno.1.2 kb (List.mem_of_getElem? hb)),k6.lt,fun p κ hp hF=>k6.sep p κ hp (k2 p (.inl hF)),k6.live⟩,zgr 9 k7 hno.1.1⟩
           obtain ⟨F2,β2,q1,q2⟩:=h.adopt hn hlt hk haft
           exact⟨F2,β2,_,_,q1,zlY st ids' hp' hn hlt hk,rfl,rfl,q2,hr⟩
         . cases hmix
       . cases hmix
     . split at hr
       . rename_i as2 st2 hfz
         obtain ⟨F1,β1,z1,zl,zd⟩:=zn2 h hfz
         exact pass as2 st2 F1 β1 z1 zl zd hr
       . cases hr
theorem zfF {C:FuncId->Array Value->World->(Ending->World->Prop)->Prop} (hC : ∀ {f args w R R'},C f args w R->(∀ e w',R e w'->R' e w')->C f args w R') {α:Type} (hG:zrx C P GL G) (h:Rel B F β st a w) (hgl:st.gl=GL) {f:Cal} {as:List AV} {k:AV->St->Option α} {r:α} (hr:zeW G st f as k=some r) {y:Value} {vs:Array Value} (he:Ent P F w β y vs f as):ztH C P B st a w y vs k r:=by
 unfold zeW at hr
 rcases zhD (C:=C) (fun h1 h2=>hC h1 h2) hG h hgl hr he with h1 | h1
 . exact h1
 . split at h1
   . rename_i f' hf
     cases f with
     | f n=>
      simp only[zEB]at hf
      split at hf
      . cases hf
        rcases zhD (C:=C) (fun h1 h2=>hC h1 h2) hG h hgl h1 (f:=.a n) he with h2 | h2
        . exact h2
        . cases h2
      . cases hf
     | a n=>cases hf
     | c x=>cases hf
   . cases h1
theorem zut{iv:AV}{y:Value}{vs:Array Value}{args:List AV}{t:TypeId}{x:AV}{name:String}{f:FuncId}(hf:V F w β iv y)(hi:iv=.ifc t x)(hl:vs.size=args.length)(hv : ∀ j,j<args.length->V F w β (args.getD j .undef) (vs.getD j undef))(hm:zdF P t name=some f):Ent P F w β (.func (.method name) #[y] #[]) vs (.f f) (x :: args):=by
 subst hi
 exact zk5 hf hl hv hm
end
section
variable {P:Program} {GL:List AV} {G:Gam} {B:Bs} {F:Nat->Prop} {β:Gh} {st:St} {a:Act} {w:World}
theorem zb3(st:St)(hp:List Blk)(h:st.heap.length<=hp.length):Al st { st with heap:=hp }:=⟨rfl,rfl,h⟩
theorem zMq(st:St)(l:List (FuncId × List AV)):Al st { st with df:=l }:=⟨rfl,rfl,Nat.le_refl _⟩
theorem zFu{F':Nat->Prop}{w':World}{β':Gh}{st':St}(h:Rel B F' β' st' a w')(d:Option Nat)(y:Value):Rel B F' β' (st'.put d .undef) (a.put d y) w':=h.put d (.undef y)
theorem zfG {α : Type} (hG:GOk P GL G) (h:Rel B F β st a w) (hgl:st.gl=GL) {o:Oper} {k:St->Option α} {r:α} (hr:zjX P G st o k=some r) {next:Act->World->Prop} {Q:Exit->Act->World->Prop}
 (hk : ∀ st' a' w' F' β',Rel B F' β' st' a' w'->Al st st'->(zfK o=false->∃ y,a'=a.put o.dst y)->k st'=some r->next a' w'):o.wp P a w next Q:=by
 have val : ∀ {st':St} {w':World} {F':Nat->Prop} {β':Gh} {y:Value},Rel B F' β' st' (a.put o.dst y) w'->Al st st'->k st'=some r->next (a.put o.dst y) w':=fun hR hA hkk=>hk _ _ _ _ _ hR hA (fun _=>⟨_,rfl⟩) hkk
 have telling:evT P st o (fun x=>k (st.put o.dst x))=some r->o.wp P a w next Q:=fun hr=>by
  obtain ⟨x,⟨y,hy,hrun⟩,hkx⟩:=zoz h hr
  exact zaS hrun (val (h.put o.dst hy) (zbs _ _ _) hkx)
 unfold zjX at hr
 split at hr
 . rename_i t ad hop
   split at hr
   . rename_i b sz i off hb
     unfold zjY at hr
     split at hr
     . split at hr
       . exact telling hr
       . split at hr
         . rename_i e ty cols hole xs hrw
           split at hr
           . rename_i hp as hs ht
             split at hr
             . rename_i x hx
               cases hfr:zds i off (P.cellsOf t) hole cols with
               | false=>rw[hfr]at hr;cases hr
               | true=>
               rw[hfr]at hr
               exact zuQ h hop hb hrw (Nat.eq_of_beq_eq_true hs) ht hx hfr fun u w' β' hR hle=>val hR (Al.trans (zb3 _ _ hle) (zbs _ _ _)) hr
             . cases hr
           . cases hr
         . cases hr
     . exact telling hr
   . exact telling hr
 . rename_i t x hop
   split at hr
   . rename_i cs hcs
     obtain ⟨h1,h2⟩:=zg3 (h.ev x) hcs
     have hR:=h.alloc (e:=t) t h1 (fun j hj=>(h2 j hj).1) o.dst
     exact zaS (w':=w.alloc (.cells (a.eval x).cells t)) (by simp[execOp,hop,Instr.box,newVar,newRow,newObj,Sem.run,Sem.run_bind]) (val hR (Al.trans (zb3 _ _ (by simp)) (zbs _ _ _)) hr)
   . cases hr
 . rename_i t hop
   split at hr
   . rename_i z hz
     obtain ⟨i,zv,hi,hzv,rfl⟩:=zdq hz
     have hR:=h.alloc (e:=t) (cs:=zv.cells.toList.map AV.v) (ys:=zv.cells) t (by simp) (fun j hj=>(by
      have hj':j<zv.cells.size:=by simpa using hj
      simp only[List.getD,List.getElem?_map,Array.getElem?_toList,hj',Array.getElem?_eq_getElem,Option.map_some,Option.getD_some,Array.getD,dite_true]
      exact .v _)) o.dst
     exact zaS (w':=w.alloc (.cells zv.cells t)) (by simp[execOp,hop,Instr.alloc,zeroValue,typeInfo,hi,hzv,newVar,newRow,newObj,Sem.run,Sem.run_bind,run_program]) (val hR (Al.trans (zb3 _ _ (by simp)) (zbs _ _ _)) hr)
   . cases hr
 . rename_i t ad x hop
   split at hr
   . rename_i b off x0 xs hb hxs
     split at hr
     . rename_i e cs hcs hsz
       split at hr
       . rename_i cs' hw
         have hv:=h.ev ad;rw[hb]at hv
         obtain ⟨hbm,hp⟩:=zhC hv
         obtain ⟨g1,g2⟩:=zg3 (h.ev x) hxs
         have hsz':(x0 :: xs).length=P.cellsOf t:=Nat.eq_of_beq_eq_true hsz
         obtain ⟨i,hi,his⟩:=zcY hsz'.symm (by simp)
         obtain ⟨w',hrun,hR⟩:=h.store hcs hw (by simp) (vs:=(a.eval x).cells.toList) (by simpa using g1) (fun j hj=>by rw[zbF];exact(g2 j hj).1) (fun v hv=>by
          obtain ⟨j,hj,rfl⟩:=List.getElem_of_mem hv
          have hj':j<(a.eval x).cells.size:=by simpa using hj
          have:=(g2 j (by omega)).2
          simpa [Array.getD,hj']using this) P
         have hrun':(execOp a.eval o).run P w=.ok .skip w':=by
          simp[execOp,hop,hp,Instr.storeAt,Instr.sureAddr,storeVar,Sem.run_bind,zaP hi w,his,g1,hrun]
         unfold Oper.wp
         rw[hrun',Oper.upon_skip]
         exact val (zFu hR o.dst undef) (Al.trans (zb3 _ _ (by simp)) (zbs _ _ _)) hr
       . cases hr
     . cases hr
   . rename_i b sz i off x0 xs hb hxs
     split at hr
     . rename_i e ty cols hole ys hrw hsz
       unfold zgj at hr
       have plain:(match(zmA cols off (x0 :: xs).length || (zoQ cols off (x0 :: xs)&&hole.isEmpty))&&Nat.beq ty.sz sz,st.frzs (x0 :: xs)with
        | true,some (zs,st1)=>match st1.heap[b]?,wr (ty.enc (nth ys i)) off zs with
         | some (.row _ _ _ _ _),some cs'=>match ty.dec cs' with
          | some y=>k (({ st1 with heap:=st1.heap.set b (.row e ty cols hole (ys.set i y)) }:St).put o.dst .undef)
          | none=>none
         | _,_=>none
        | _,_=>none)=some r->o.wp P a w next Q:=fun hr=>by
        split at hr
        . rename_i zs st1 hs hz
          split at hr
          . rename_i e2 t2 cols2 hole2 ys2 cs' hr1 hw
            split at hr
            . rename_i y hd
              simp only[Bool.and_eq_true,Bool.or_eq_true,List.isEmpty_iff]at hs
              exact zob h hop hb (by simp) hxs hrw (Nat.eq_of_beq_eq_true hsz) (Nat.eq_of_beq_eq_true hs.2) hs.1 hz hr1 hw hd fun u w' F' β' hR hA=>val hR (hA.trans (Al.trans (zb3 _ _ (by simp)) (zbs _ _ _))) hr
            . cases hr
          . cases hr
        . cases hr
       split at hr
       . rename_i n e' hc
         split at hr
         . rename_i e2 t' zs hn hs
           split at hr
           . rename_i cs' he hw
             split at hr
             . rename_i y hd
               have h3:=Nat.eq_of_beq_eq_true he
               subst h3
               have hnb:n ≠ b:=fun e=>by
                subst e
                rw[hrw]at hn
                simp only[Option.some.injEq,Blk.row.injEq]at hn
                obtain ⟨_,_,hcn,_⟩:=hn
                rw[hcn]at hc
                cases hc
               split at hr
               . rename_i hj
                 exact zgX h hop hb hxs (hole':=hole) (fun _ _ _ h=>h) (fun p hp=>⟨hp,fun n' hpp=>zlF hj i n' (hpp ▸ hp)⟩) hrw hn hnb hc (Nat.eq_of_beq_eq_true hsz) (Nat.eq_of_beq_eq_true hs) hw hd fun u w' β' hR=>val hR (Al.trans (zb3 _ _ (by simp)) (zbs _ _ _)) hr
               . rename_i hj
                 split at hr
                 . rename_i i' j' n'
                   cases hii:Nat.beq i i' with
                   | false=>rw[hii]at hr;cases hr
                   | true=>
                    rw[hii]at hr
                    have h1:=Nat.eq_of_beq_eq_true hii
                    subst h1
                    have h2:j'=off:=by
                     simp only[noS]at hj
                     split at hj
                     . rename_i hq;exact Nat.eq_of_beq_eq_true hq
                     . cases hj
                    subst h2
                    exact zgX h hop hb hxs (hole':=[]) (fun i2 j2 hne hm=>by have:=zx1 hm;omega) (fun p hp=>by cases hp) hrw hn hnb hc (Nat.eq_of_beq_eq_true hsz) (Nat.eq_of_beq_eq_true hs) hw hd fun u w' β' hR=>val hR (Al.trans (zb3 _ _ (by simp)) (zbs _ _ _)) hr
                 . cases hr
             . cases hr
           . cases hr
         . cases hr
       . exact plain hr
     . cases hr
   . rename_i b o0 ty m i d x0 xs hb hxs
     split at hr
     . rename_i e cs hcs hsz
       unfold zgk at hr
       split at hr
       . rename_i ys zs st1 hys hz
         split at hr
         . rename_i e2 c2 cs' hr1 hw
           split at hr
           . rename_i y hd
             split at hr
             . rename_i cs2 hw2
               exact zrl h hop hb (by simp) hxs hcs (Nat.eq_of_beq_eq_true hsz) hys hz hr1 hw hd hw2 fun u w' F' β' hR hA=>val hR (hA.trans (Al.trans (zb3 _ _ (by simp)) (zbs _ _ _))) hr
             . cases hr
           . cases hr
         . cases hr
       . cases hr
     . cases hr
   . cases hr
 . rename_i t l c hop
   split at hr
   . rename_i e n m hu hl hc
     split at hr
     . rename_i ty z i hty hz hi
       split at hr
       . rename_i x bt hx hs hb
         cases hcd:(decide (n=m)&&decide (0<=n)&&leB (n.toNat*i.bytes) 140737488355328)with
         | false=>rw[hcd]at hr;cases hr
         | true=>
          rw[hcd]at hr
          simp only[Bool.and_eq_true,decide_eq_true_eq,leB,Nat.ble_eq]at hcd
          obtain ⟨⟨rfl,h0⟩,hle⟩:=hcd
          simp only[Bool.and_eq_true]at hs
          exact zus h hop hu hl hc hz hi hx (Nat.eq_of_beq_eq_true hs.1) (by omega) h0 hle hs.2 fun u w' β' hR=>val hR (zfA _ _ _) hr
       . cases hr
     . cases hr
   . cases hr
 . rename_i t len parts hop
   split at hr
   . rename_i e hu
     split at hr
     . rename_i ty z i hty hz hi
       split at hr
       . rename_i cs hs hle hf
         split at hr
         . rename_i zs st1 hzr
           split at hr
           . rename_i xs hd
             simp only[Bool.and_eq_true]at hs
             exact zxO h hop hu hz hi (Nat.eq_of_beq_eq_true hs.1) (Nat.le_of_ble_eq_true hle) hf hzr hd (Nat.eq_of_beq_eq_true hs.2) fun u w' F' β' hR hA=>val hR (hA.trans (zfA _ _ _)) hr
           . cases hr
         . cases hr
       . cases hr
     . cases hr
   . cases hr
 . rename_i args tys hop
   split at hr
   . rename_i s x t t' hx ht
     split at hr
     . rename_i e hu
       split at hr
       . rename_i ty z i hty hz hi
         split at hr
         . rename_i bt xs st1 htt hs hb h1
           split at hr
           . rename_i hdp
             rw[hdp]at h1
             split at hr
             . rename_i ys h2
               cases hcd:leB ((xs.length+ys.length)*i.bytes) 140737488355328 with
               | false=>rw[hcd]at hr;cases hr
               | true=>
                rw[hcd]at hr
                simp only[leB,Nat.ble_eq]at hcd
                simp only[Bool.and_eq_true]at hs
                have e1:args=#[s,x]:=by apply Array.ext';simpa using hx
                have e2:tys=#[t,t']:=by apply Array.ext';simpa using ht
                have e3:t=t':=Nat.eq_of_beq_eq_true htt
                subst e1 e2 e3
                obtain ⟨i',zv,hi',hzv,rfl⟩:=zdq hz
                obtain rfl:i=i':=by rw[hi]at hi';simpa using hi'
                exact zxs h hop hu hi (Nat.eq_of_beq_eq_true hs.1) (by omega) hzv (by simpa using Nat.eq_of_beq_eq_true hs.2) h1 h2 hcd fun u w' β' hR hA=>val hR (hA.trans (zfA _ _ _)) hr
             . cases hr
           . rename_i c cols hdp
             rw[hdp]at h1
             split at hr
             . rename_i ys st2 h2
               cases hcd:leB ((xs.length+ys.length)*i.bytes) 140737488355328 with
               | false=>rw[hcd]at hr;cases hr
               | true=>
                rw[hcd]at hr
                simp only[leB,Nat.ble_eq]at hcd
                simp only[Bool.and_eq_true]at hs
                have e1:args=#[s,x]:=by apply Array.ext';simpa using hx
                have e2:tys=#[t,t']:=by apply Array.ext';simpa using ht
                have e3:t=t':=Nat.eq_of_beq_eq_true htt
                subst e1 e2 e3
                obtain ⟨i',zv,hi',hzv,rfl⟩:=zdq hz
                obtain rfl:i=i':=by rw[hi]at hi';simpa using hi'
                exact ztP h hop hu hi (Nat.eq_of_beq_eq_true hs.1) (by omega) hzv (by simpa using Nat.eq_of_beq_eq_true hs.2) h1 h2 hcd fun u w' β' hR hA=>val hR (hA.trans (zfA _ _ _)) hr
             . cases hr
         . rename_i bt xs st1 htt hs hb h1
           split at hr
           . rename_i kn kq n x0 hu' hxe hdp hx0
             rw[hdp]at h1
             cases hcd:(decide (0<n)&&leB ((xs.length+n.toNat)*i.bytes) 140737488355328)with
             | false=>rw[hcd]at hr;cases hr
             | true=>
              rw[hcd]at hr
              simp only[Bool.and_eq_true,decide_eq_true_eq,leB,Nat.ble_eq]at hcd
              simp only[Bool.and_eq_true]at hs
              have e1:args=#[s,x]:=by apply Array.ext';simpa using hx
              have e2:tys=#[t,t']:=by apply Array.ext';simpa using ht
              subst e1 e2
              exact zzq h hop hu hu' hz hi hx0 (Nat.eq_of_beq_eq_true hs.1) (by omega) h1 hxe hcd.1 hcd.2 fun u w' β' hR hA=>val hR (hA.trans (zfA _ _ _)) hr
           . cases hr
         . cases hr
       . cases hr
     . cases hr
   . cases hr
 . rename_i t x lo hi hop
   split at hr
   . rename_i b hx
     split at hr
     . rename_i ty xs st1 e hz hu
       split at hr
       . rename_i l hh hlo hhi hs
         cases hin:inS l hh xs.length with
         | false=>rw[hin]at hr;cases hr
         | true=>
          rw[hin]at hr
          obtain ⟨F1,β1,z1,zd⟩:=zdg h hz
          have hv:=h.ev x;rw[hx]at hv
          have hd:=zd _ hv
          obtain ⟨y,hy,hrun⟩:=zlc (P:=P) hu (Nat.eq_of_beq_eq_true hs) hd (zcJ h hlo) (zcJ h hhi) hin
          exact zaS (w':=w) (y:=y) (by simp[execOp,hop,Sem.run_bind,hrun w]) (val (z1.rel.put o.dst hy) (z1.al.trans (zbs _ _ _)) hr)
       . cases hr
     . cases hr
   . exact telling hr
 . rename_i c args tys hop
   split at hr
   . rename_i f as ht
     have hent:Ent P F w β (a.eval c) (args.map a.eval) f as:=znN (h.ev c) (by simp) (fun j hj=>by
      have:=zfg h args.toList j hj
      have e:(args.map a.eval).getD j undef=(args.toList.map a.eval).getD j undef:=by rw[← zbF,Array.toList_map]
      rw[e];exact this) ht
     obtain ⟨n,us,e1,e2⟩:=zfF (C:=Calls P) (fun h hr=>h.mono hr) hG h hgl hr hent
     unfold Oper.wp
     have hrun:(execOp a.eval o).run P w=.ok (.enter n us.toArray) w:=by
      have:=e1 w
      simp only[Sem.run_bind]at this
      simp only[execOp,hop,resolve,Sem.run_bind]
      exact this
     rw[hrun,Oper.upon_enter]
     refine e2.mono fun e w' ⟨z,hz,F',β',x,st',hR,hA,_,_,hv,hkk⟩=>?_
     subst hz
     exact val (hR.put o.dst hv) (hA.trans (zbs _ _ _)) hkk
   . cases hr
 . rename_i x m args tys hop
   split at hr
   . rename_i t y hx
     split at hr
     . rename_i f hm
       have hent:Ent P F w β (.func (.method m) #[a.eval x] #[]) (args.map a.eval) (.f f) (y :: args.toList.map st.ev):=zut (h.ev x) hx (by simp) (fun j hj=>by
        have:=zfg h args.toList j hj
        have e:(args.map a.eval).getD j undef=(args.toList.map a.eval).getD j undef:=by rw[← zbF,Array.toList_map]
        rw[e];exact this) hm
       obtain ⟨n,us,e1,e2⟩:=zfF (C:=Calls P) (fun h hr=>h.mono hr) hG h hgl hr hent
       unfold Oper.wp
       have hrun:(execOp a.eval o).run P w=.ok (.enter n us.toArray) w:=by
        have:=e1 w
        simp only[Deferred.ofValue,Sem.run_bind,Sem.run_pure,Result.andThen_ok,Array.append_empty]at this
        simp only[execOp,hop,resolve,Sem.run_bind,Sem.run_pure,Result.andThen_ok]
        exact this
       rw[hrun,Oper.upon_enter]
       refine e2.mono fun e w' ⟨z,hz,F',β',x,st',hR,hA,_,_,hv,hkk⟩=>?_
       subst hz
       exact val (hR.put o.dst hv) (hA.trans (zbs _ _ _)) hkk
     . cases hr
   . cases hr
 . rename_i t hop
   split at hr
   . rename_i kt vt hu
     split at hr
     . rename_i kk kvt hkk hkv
       have hb:(β.box st.heap.length w.heap.size).b st.heap.length=w.heap.size:=by simp[Gh.box]
       have hV:V F (w.alloc (.map #[] 0)) (β.box st.heap.length w.heap.size) (.om st.heap.length) (.map (some w.heap.size)):=by
        have:=V.om (F:=F) (w:=w.alloc (.map #[] 0)) (β:=β.box st.heap.length w.heap.size) st.heap.length (.inl rfl)
        rwa [hb]at this
       have hR:=h.allocB (k:=.map kk kvt (st.dp t) []) (ob:=.map #[] 0) ⟨#[],0,by rw[hb];exact heap_alloc_new w _,rfl,by rw[hb];simp[Gh.box],fun i hi=>by simp at hi,fun i hi=>by simp at hi⟩ o.dst hV
       exact zaS (w':=w.alloc (.map #[] 0)) (by simp[execOp,hop,Instr.makeMap,newObj,Sem.run,Sem.run_bind]) (val hR (Al.trans (zb3 _ _ (by simp)) (zbs _ _ _)) hr)
     . cases hr
   . cases hr
 . rename_i t m x y hop
   split at hr
   . rename_i b kt vt hm hu
     split at hr
     . rename_i kk kvt kv k0 v0 cols esx hkk hkv hky hb0
       obtain ⟨hy,hc⟩:=zj4 hky (h.ev x)
       split at hr
       . rename_i vl st1 key hmv hkey
         obtain ⟨F1,β1,hR1,hsub,hle,hbb,hal,hmap,hval⟩:=zqv h hmv
         split at hr
         . rename_i ka va cols' es0 hb1
           have hb2:=hmap _ _ _ _ _ hb1
           rw[hb0]at hb2
           cases hb2
           split at hr
           . rename_i es hes
             obtain ⟨e,e',rfl⟩:=zec hes
             subst e;subst e'
             have hv:=h.ev m;rw[hm]at hv
             obtain ⟨_,hmv'⟩:=ztM hv
             have hk1:D F1 w (zbU k0 key) kv:=((zBJ hkey (hy ▸ h.ev x)).toD (zd7 _ _)).wide hsub
             cases hmp:zn5 (zdE P kt k0 kv) (zj3 P kt) key vl esx with
             | none=>rw[hmp]at hr;cases hr
             | some es'=>
              rw[hmp]at hr
              obtain ⟨w',hrun,hR⟩:=zls hR1 hb1 hu hc hk1 (hval _ (h.ev y)) hmp
              have hrun':(execOp a.eval o).run P w=.ok .skip w':=by
               rw[hbb]at hrun
               simp[execOp,hop,hmv',hy,hrun,Sem.run_bind]
              unfold Oper.wp
              rw[hrun',Oper.upon_skip]
              exact val (zFu hR o.dst undef) (Al.trans hal (Al.trans (zb3 _ _ (by simp)) (zbs _ _ _))) hr
           . cases hr
         . cases hr
       . cases hr
     . cases hr
   . cases hr
 . rename_i args tys hop
   split at hr
   . rename_i m x t ts hx ht
     have e1:args=#[m,x]:=by apply Array.ext';simpa using hx
     have e2:tys[0]?=some t:=by rw[← Array.getElem?_toList,ht];rfl
     subst e1
     split at hr
     . rename_i b kt vt hm hu
       split at hr
       . rename_i kk kvt kv ka va cols es0 hkk hkv hky hb1
         obtain ⟨hy,hc⟩:=zj4 hky (h.ev x)
         split at hr
         . rename_i es hes
           obtain ⟨e,e',rfl⟩:=zec hes
           subst e;subst e'
           have hv:=h.ev m;rw[hm]at hv
           obtain ⟨_,hmv⟩:=ztM hv
           cases hmp:zqw (zdE P kt ka kv) es0 with
           | none=>rw[hmp]at hr;cases hr
           | some es'=>
            rw[hmp]at hr
            obtain ⟨w',hrun,hR⟩:=zlr h hb1 hu e2 o.type hc hmp
            refine zaS (w':=w') (y:=.tuple #[]) ?_ (val (hR.put o.dst (.v _)) (Al.trans (zb3 _ _ (by simp)) (zbs _ _ _)) hr)
            simp[execOp,hop,resolve,invoke,builtin,hmv,hy,hrun,Sem.run_bind,Result.andThen]
         . cases hr
       . cases hr
     . cases hr
   . cases hr
 . rename_i x xt t hop
   split at hr
   . rename_i t' y fs hx hu
     have hv:=h.ev x;rw[hx]at hv
     obtain ⟨z,hz,hzv⟩ : ∃ z,a.eval x=.iface t' z/\V F w β y z:=by
      generalize a.eval x=q at hv
      cases hv with
      | ifc _ _ z hz=>exact⟨z,rfl,hz⟩
     split at hr
     . rename_i ht
       have ht:=Nat.eq_of_beq_eq_true ht
       subst ht
       refine zaS (w':=w) (y:=.tuple #[z,.bool true]) ?_ (val (h.put o.dst (.tup _ _ (by simp) fun j hj=>?_)) (zbs _ _ _) hr)
       . simp[execOp,hop,hz,Instr.typeAssert,Sem.run_bind,run_underlying hu w]
       . match j,hj with
         | 0,_=>simpa using hzv
         | 1,_=>exact .v _
     . rename_i ht
       have hne : ¬ t'=t:=fun e=>by subst e;simp at ht
       split at hr
       . rename_i i hi
         split at hr
         . rename_i zc hzz
           refine zaS (w':=w) (y:=.tuple #[.agg zc,.bool false]) ?_ (val (h.put o.dst (.tup _ _ (by simp) fun j hj=>?_)) (zbs _ _ _) hr)
           . simp[execOp,hop,hz,Instr.typeAssert,Sem.run_bind,run_underlying hu w,hne,zeroValue,typeInfo,hi,hzz,run_program]
           . match j,hj with
             | 0,_=>
              refine .agg _ _ (by simp) fun j hj=>?_
              have hj':j<zc.size:=by simpa using hj
              simp only[List.getD,List.getElem?_map,Array.getElem?_toList,hj',Array.getElem?_eq_getElem,Option.map_some,Option.getD_some,Array.getD,dite_true]
              exact .v _
             | 1,_=>exact .v _
         . cases hr
       . cases hr
   . cases hr
 . rename_i c args tys hop
   split at hr
   . rename_i f as fn fi ca ht hfe
     have hv:=h.ev c;rw[hfe]at hv ht
     have hfun : ∃ ya yc,a.eval c=.func (.func fn) ya yc/\ya.size=fi.length/\yc.size=ca.length/\(∀ j,j<fi.length->V F w β (fi.getD j .undef) (ya.getD j undef))/\(∀ j,j<ca.length->V F w β (ca.getD j .undef) (yc.getD j undef)):=by
      generalize a.eval c=q at hv
      cases hv
      exact⟨_,_,rfl,by assumption,by assumption,by assumption,by assumption⟩
     obtain ⟨ya,yc,hy,g1,g2,g3,g4⟩:=hfun
     simp[target]at ht
     obtain ⟨rfl,rfl⟩:=ht
     unfold Oper.wp
     have hrun:(execOp a.eval o).run P w=.ok (.defer ⟨.fn (.func fn) yc,ya++args.map a.eval⟩) w:=by
      simp[execOp,hop,resolve,hy,Deferred.ofValue,Sem.run_bind]
     rw[hrun,Oper.upon_defer]
     have hR:Rel B F β ({ st with df:=(fn,fi++(List.map st.ev args.toList++ca)) :: st.df }:St) { a with defers:=⟨.fn (.func fn) yc,ya++args.map a.eval⟩ :: a.defers } w:=by
      refine⟨h.len,h.env,h.gl,?_,h.kept,h.fo,h.fi,h.lo,h.per,h.bn,h.nw,h.hn,h.heap⟩
      refine⟨⟨yc,rfl,by simp[g1,g2],?_⟩,h.df⟩
      have e : ∀ j,((ya++args.map a.eval)++yc).getD j undef=(ya.toList++((args.toList.map a.eval)++yc.toList)).getD j undef:=fun j=>by rw[← zbF];congr 1;simp
      intro j hj
      rw[e]
      exact zg4 (by simpa using g1) (fun j hj=>by rw[zbF];exact g3 j hj) (zg4 (by simp) (fun j hj=>zfg h args.toList j hj) (fun j hj=>by rw[zbF];exact g4 j hj)) j (by simpa using hj)
     exact hk _ _ _ _ _ (hR.put o.dst (.undef _)) (Al.trans (zMq _ _) (zbs _ _ _)) (fun hd=>by simp[zfK,hop]at hd) hr
   . cases hr
 . rename_i args tys hop
   split at hr
   . rename_i d s t t' hx ht
     have e1:args=#[d,s]:=by apply Array.ext';simpa using hx
     have e2:tys=#[t,t']:=by apply Array.ext';simpa using ht
     subst e1 e2
     unfold zmb at hr
     split at hr
     . rename_i b q m hd
       split at hr
       . rename_i e ty xs e2 hrw hu
         split at hr
         . rename_i ys hs hy
           simp only[Bool.and_eq_true]at hs
           exact zt9 h hop hd hrw hu (Nat.eq_of_beq_eq_true hs.1) (Nat.eq_of_beq_eq_true hs.2) hy fun u w' hR=>val hR (Al.trans (zb3 _ _ (by simp)) (zbs _ _ _)) hr
         . cases hr
       . cases hr
     . cases hr
   . cases hr
 . rename_i args tys hop
   split at hr
   . rename_i x t hx ht
     have e1:args=#[x]:=by apply Array.ext';simpa using hx
     have e2:tys=#[t]:=by apply Array.ext';simpa using ht
     subst e1 e2
     unfold ziH at hr
     split at hr
     . rename_i b hb
       split at hr
       . rename_i e ty xs e2 hrw hu
         split at hr
         . rename_i z hs hz
           split at hr
           . rename_i y hy
             exact zrM h hop hb hrw hu (Nat.eq_of_beq_eq_true hs) hz hy fun u w' hR=>val hR (Al.trans (zb3 _ _ (by simp)) (zbs _ _ _)) hr
           . cases hr
         . cases hr
       . cases hr
     . cases hr
   . cases hr
 . exact telling hr
theorem zkV {α:Type} (hG:GOk P GL G) (l:List Oper) (h:Rel B F β st a w) (hgl:st.gl=GL) {o:Oper} {k:St->Option α} {r:α} (hr:zoy P G l st o k=some r) {next:Act->World->Prop} {Q:Exit->Act->World->Prop}
 (hk : ∀ st' a' w' F' β',Rel B F' β' st' a' w'->Al st st'->(zfK o=false->∃ y,a'=a.put o.dst y)->k st'=some r->next a' w'):o.wp P a w next Q:=by
 unfold zoy at hr
 split at hr
 . split at hr
   . rename_i t x lo hi hop
     split at hr
     . rename_i b hb
       unfold zAy at hr
       split at hr
       . rename_i e ty xs e2 hrw hu
         split at hr
         . rename_i l hh hlo hhi hs
           cases hin:inS l hh xs.length with
           | false=>rw[hin]at hr;cases hr
           | true=>
            rw[hin]at hr
            exact zuS h hop hb hrw hu hlo hhi (Nat.eq_of_beq_eq_true hs) hin fun u hR=>hk _ _ _ _ _ hR (zbs _ _ _) (fun _=>⟨_,rfl⟩) hr
         . cases hr
       . cases hr
     . exact zfG hG h hgl hr hk
   . exact zfG hG h hgl hr hk
 . exact zfG hG h hgl hr hk
theorem zkF(h:Rel B F β st a w){l:List Oper}{o:Oper}{j d:Nat}{want t:Bool}(hg:o.guard=some (j,want))(hd:(l[j]?).bind (·.dst)=some d)(hs:st.get d=.v (.bool t)):Region.wanted o (yielded l.toArray a.tmps)=(t==want):=by
 have:=zyd h hs
 simp only[Region.wanted,hg,yielded,List.getElem?_toArray,hd,Option.bind_some,this]
 cases t <;> cases want <;> rfl
theorem zmT(h:Rel B F β st a w)(d:Option Nat):Rel B F β (st.put d zey) (a.put d undef) w:=h.put d (.v _)
theorem znV(h:Rel B F β st a w){l:List Oper}{o:Oper}{j d:Nat}{want:Bool}{q:Array Value}(hg:o.guard=some (j,want))(hd:(l[j]?).bind (·.dst)=some d)(hs:st.get d=.v (.tuple q)):Region.wanted o (yielded l.toArray a.tmps)=false:=by
 have hv:=h.env d
 rw[hs]at hv
 have:=V_v hv
 rw[Array.getD_eq_getD_getElem?]at this
 simp only[Region.wanted,hg,yielded,List.getElem?_toArray,hd,Option.bind_some]
 cases hq:a.tmps[d]? with
 | none=>rfl
 | some z=>rw[hq]at this;simp at this;subst this;rfl
theorem zkX {α:Type} (hG:GOk P GL G) (l:List Oper) {Q:Exit->Act->World->Prop} {k:St->Option α} {r:α} (N:Nat) (hk : ∀ st' a' w' F' β',Rel B F' β' st' a' w'->st'.gl=GL->st'.np=N->k st'=some r->Q .normal a' w') :
 ∀ (rest:List Oper) (F:Nat->Prop) (β:Gh) (st:St) (a:Act) (w:World),Rel B F β st a w->st.gl=GL->st.np=N->zgi P G l rest st k=some r->wpList P l.toArray Q rest a w
 | [],F,β,st,a,w,h,hgl,hnp,hr=>wpList_nil (hk _ _ _ _ _ h hgl hnp hr)
 | o :: rest,F,β,st,a,w,h,hgl,hnp,hr=>by
  have ih:=zkX hG l N hk rest
  refine wpList_step fun K hK=>?_
  simp only[zgi]at hr
  split at hr
  . rename_i hg
    rw[if_pos (by simp[Region.wanted,hg])]
    exact zkV hG l h hgl hr fun st' a' w' F' β' hR hA _ hk'=>hK _ _ (ih F' β' st' a' w' hR (hA.1.trans hgl) (hA.2.1.trans hnp) hk')
  . rename_i j want hg
    split at hr
    . rename_i d hd
      split at hr
      . rename_i t hs
        have hw:=zkF h hg hd hs
        have hsame : ∀ t',t=t'->st.set d (.v (.bool t'))=st:=fun t' e=>zqO (by rw[hs,e])
        have go:(cond (t==want) (zoy P G l (st.set d (.v (.bool want))) o fun st=>zgi P G l rest st k) (zgi P G l rest ((st.set d (.v (.bool (!want)))).put o.dst zey) k))=some r:=by
         cases want <;> cases t <;> exact hr
        rw[hw]
        cases hq:(t==want)with
        | true=>
         rw[hq]at go
         have e:t=want:=by simpa using hq
         rw[hsame want e,cnT]at go
         rw[if_pos rfl]
         exact zkV hG l h hgl go fun st' a' w' F' β' hR hA _ hk'=>hK _ _ (ih F' β' st' a' w' hR (hA.1.trans hgl) (hA.2.1.trans hnp) hk')
        | false=>
         rw[hq]at go
         have e:t=!want:=by cases t <;> cases want <;> simp_all
         rw[hsame (!want) e,cnF]at go
         rw[if_neg (by simp)]
         have hA:=zbs st o.dst zey
         exact hK _ _ (ih F β _ _ w (zmT h o.dst) (hA.1.trans hgl) (hA.2.1.trans hnp) go)
      . rename_i q hs
        rw[znV h hg hd hs,if_neg (by simp)]
        have hA:=zbs st o.dst zey
        exact hK _ _ (ih F β _ _ w (zmT h o.dst) (hA.1.trans hgl) (hA.2.1.trans hnp) hr)
      . cases hr
    . cases hr
end
end Go.Proofs.YtgajeebphoiphaaGreatDoor
end
