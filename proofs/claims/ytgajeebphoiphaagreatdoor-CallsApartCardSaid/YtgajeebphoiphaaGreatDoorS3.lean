import Derived.Test.YtgajeebphoiphaaGreatDoorS
import Derived.Laws.Slices
import Derived.Laws.Small
import Derived.Laws.StructEq
import Derived.ChangeKeysEq
import Derived.WalkKit
set_option linter.unusedVariables false
set_option linter.unusedSimpArgs false
noncomputable section
namespace Go.Proofs.YtgajeebphoiphaaGreatDoor
open Go.RowKit
section
variable {P:Program} {F:Nat->Prop} {w:World} {β:Gh}
theorem zdW{t:TypeId}(h:zfz P t=some none)(w':World):(isAgg t).run P w'=.ok false w':=by
 unfold zfz at h
 cases hu:P.underlying t with
 | none=>simp[hu]at h
 | some d=>
  rw[hu]at h
  unfold isAgg
  rw[Sem.run_bind,run_underlying hu w']
  cases d <;> simp at h ⊢
theorem zdX{t:TypeId}{n:Nat}(h:zfz P t=some (some n)):(∀ w':World,(isAgg t).run P w'=.ok true w')/\∃ i,P.info? t=some i/\i.size=n:=by
 unfold zfz at h
 cases hu:P.underlying t with
 | none=>simp[hu]at h
 | some d=>
  rw[hu]at h
  refine⟨fun w'=>?_,?_⟩
  . unfold isAgg
    rw[Sem.run_bind,run_underlying hu w']
    cases d <;> simp at h ⊢
  . cases d <;> simp at h
    . exact h
    . exact h
theorem zaP{t:TypeId}{i:TypeInfo}(h:P.info? t=some i)(w':World):(sizeOf t).run P w'=.ok i.size w':=by simp[sizeOf,typeInfo,h,Sem.run_bind,run_program]
theorem zya{w':World}{a:Addr}{y:Value}(h:w'.cell? a=some y):(load a).run P w'=.ok y w':=by simp[load,Sem.run,h]
theorem zew {t:TypeId} {cs:List AV} {off:Nat} {r:AV} (h:rd P t cs off=some r) (b o:Nat) (Y:Nat->Value) (hV : ∀ j,j<cs.length->V F w β (cs.getD j .undef) (Y j)) :
 ∃ y,V F w β r y/\∀ w':World,(∀ j,j<cs.length->w'.cell? ⟨b,o+j,none⟩=some (Y j))->(loadVar t ⟨b,o+off,none⟩).run P w'=.ok y w':=by
 unfold rd at h
 split at h
 . rename_i ha
   obtain ⟨hlt,rfl⟩:=List.getElem?_eq_some_iff.1 h
   refine⟨Y off,(by simpa [List.getD,hlt]using hV off hlt),fun w' hc=>?_⟩
   simp only[loadVar,Sem.run_bind,zdW ha w',Result.andThen_ok,Bool.false_eq_true,if_false]
   exact zya (hc off hlt)
 . rename_i n ha
   split at h
   . rename_i hle
     have hle':off+n<=cs.length:=Nat.le_of_ble_eq_true hle
     simp at h;subst h
     obtain ⟨hagg,i,hi,hn⟩:=zdX ha
     have hlen:((List.range n).map fun j=>Y (off+j)).length=n:=by simp
     refine⟨.agg ((List.range n).map fun j=>Y (off+j)).toArray,.agg _ _ (by simp;omega) fun j hj=>?_,fun w' hc=>?_⟩
     . have hj':j<n:=by simp at hj;omega
       have:=hV (off+j) (by omega)
       simpa [List.getD,Array.getD,hj',show off+j<cs.length by omega,List.getElem?_take]using this
     . have hl:=run_loadCells_list (P:=P) w' ⟨b,o+off,none⟩ ((List.range n).map fun j=>Y (off+j)) (fun j v hv=>by
        have hj:j<n:=by
         rcases Nat.lt_or_ge j n with h | h
         . exact h
         . simp[List.getElem?_eq_none (show((List.range n).map fun j=>Y (off+j)).length<=j by simp;exact h)]at hv
        simp[hj]at hv
        rw[show(⟨b,o+off,none⟩:Addr).add j=⟨b,o+(off+j),none⟩by unfold Addr.add;split <;> simp_all [Nat.add_assoc]]
        rw[← hv];exact hc _ (by omega))
       rw[hlen]at hl
       simp only[loadVar,Sem.run_bind,hagg w',Result.andThen_ok,if_true,zaP hi w',hn,hl,Sem.run_pure]
   . cases h
 . cases h
theorem zuA{t:TypeId}{cs:List AV}{ys:Array Value}{off:Nat}{r:AV}(h:rd P t cs off=some r)(hl:ys.size=cs.length)(hV : ∀ j,j<cs.length->V F w β (cs.getD j .undef) (ys.getD j undef)) :
 ∃ y,V F w β r y/\∀ w':World,(part t ys off).run P w'=.ok y w':=by
 unfold rd at h
 split at h
 . rename_i ha
   obtain ⟨hlt,rfl⟩:=List.getElem?_eq_some_iff.1 h
   have hlt':off<ys.size:=by omega
   refine⟨ys[off],(by simpa [List.getD,Array.getD,hlt,hlt']using hV off hlt),fun w'=>?_⟩
   simp[part,Sem.run_bind,zdW ha w',hlt']
 . rename_i n ha
   split at h
   . rename_i hle
     have hle':off+n<=cs.length:=Nat.le_of_ble_eq_true hle
     simp at h;subst h
     obtain ⟨hagg,i,hi,hn⟩:=zdX ha
     refine⟨.agg (ys.extract off (off+n)),.agg _ _ (by simp;omega) fun j hj=>?_,fun w'=>?_⟩
     . have hj':j<n:=by simp at hj;omega
       have:=hV (off+j) (by omega)
       simpa [List.getD,Array.getD,hj',show off+j<cs.length by omega,List.getElem?_take,show off+j<ys.size by omega,show j<min (off+n) ys.size-off by omega]using this
     . simp[part,Sem.run_bind,hagg w',zaP hi w',hn]
   . cases h
 . cases h
theorem zhC{b off:Nat}{y:Value}(h:V F w β (.ref b off) y):β.l b/\y=.pointer (some ⟨β.b b,off,none⟩):=by cases h;exact⟨by assumption,rfl⟩
theorem zdw{b:Nat}{y:Value}(h:V F w β (.own b) y):β.l b/\y=β.v b/\∃ A n c,y=.slice A n c:=by cases h;exact⟨by assumption,rfl,_,_,_,by assumption⟩
theorem zlW{b sz i off:Nat}{y:Value}(h:V F w β (.oel b sz i off) y) : ∃ p n c,β.l b/\β.v b=.slice (some ⟨p,0,none⟩) n c/\i<n/\y=.pointer (some ⟨p,i*sz+off,none⟩):=by
 cases h;exact⟨_,_,_,by assumption,by assumption,by assumption,rfl⟩
theorem zrC{b o0 m i d:Nat}{t:Ty}{y:Value}(h:V F w β (.rex b o0 t m i d) y):β.l b/\i<m/\y=.pointer (some ⟨β.b b,o0+i*t.sz+d,none⟩):=by cases h;exact⟨by assumption,by assumption,rfl⟩
theorem zGT{b sz o n:Nat}{y:Value}(h:V F w β (.vw b sz o n) y) : ∃ A c',β.l b/\n<=c'/\y=.slice A n c'/\(0<n->∃ p N c,β.v b=.slice (some ⟨p,0,none⟩) N c/\o+n<=N/\A=some ⟨p,o*sz,none⟩):=by
 cases h;exact⟨_,_,by assumption,by assumption,rfl,by assumption⟩
theorem ziy{cs:List AV}{y:Value}(h:V F w β (.agg cs) y) : ∃ ys,y=.agg ys/\ys.size=cs.length/\∀ j,j<cs.length->V F w β (cs.getD j .undef) (ys.getD j undef):=by
 cases h;exact⟨_,rfl,by assumption,by assumption⟩
theorem zEA{cs:List AV}{y:Value}(h:V F w β (.tup cs) y) : ∃ ys,y=.tuple ys/\ys.size=cs.length/\∀ j,j<cs.length->V F w β (cs.getD j .undef) (ys.getD j undef):=by
 cases h;exact⟨_,rfl,by assumption,by assumption⟩
theorem zpT{t:Ty}{xs:List t.T}{y:Value}(h:V F w β (.sl t xs) y) : ∃ A c,y=.slice A xs.length c:=by
 cases h with
 | sl0 _ A c=>exact⟨A,c,rfl⟩
 | sl _ _ b o c=>exact⟨_,c,rfl⟩
theorem sl_D{t:Ty}{xs:List t.T}{y:Value}(h:V F w β (.sl t xs) y):D F w (.sl t xs) y:=h.toD (.sl _ _)
theorem ztL{t:Ty}{xs:List t.T}{i off:Nat}{y:Value}(h:V F w β (.el t xs i off) y) :
 ∃ b o,∃ Y:Nat->Value,i<xs.length/\y=.pointer (some ⟨b,o+off,none⟩)/\F b/\b<w.heap.size/\(∀ j,j<t.sz->w.cell? ⟨b,o+j,none⟩=some (Y j))/\∀ j,j<t.sz->V F w β ((t.enc (nth xs i)).getD j .undef) (Y j):=by
 cases h;exact⟨_,_,_,by assumption,rfl,by assumption,by assumption,by assumption,by assumption⟩
theorem zzi{t:Ty}{x:t.T}{y:Value}(h:V F w β (.op t (some x)) y) :
 ∃ b o,∃ Y:Nat->Value,y=.pointer (some ⟨b,o,none⟩)/\F b/\b<w.heap.size/\(∀ j,j<t.sz->w.cell? ⟨b,o+j,none⟩=some (Y j))/\∀ j,j<t.sz->V F w β ((t.enc x).getD j .undef) (Y j):=by
 cases h;exact⟨_,_,_,rfl,by assumption,by assumption,by assumption,by assumption⟩
theorem zFq{t:Ty}{x:t.T}{y:Value}(h:V F w β (.op t (some x)) y):V F w β (.el t [x] 0 0) y:=by
 obtain ⟨b,o,Y,rfl,hF,hb,hc,hd⟩:=zzi h
 exact .el t [x] 0 0 b o Y (by simp) hF hb hc hd
theorem add_lit(b o n:Nat):(⟨b,o,none⟩:Addr).add n=⟨b,o+n,none⟩:=by unfold Addr.add;split <;> simp_all
end
theorem zb0{i n j s:Nat}(hi:i<n)(hj:j<s):i*s+j<n*s:=by
 have:(i+1)*s<=n*s:=Nat.mul_le_mul_right s hi
 rw[Nat.add_mul]at this
 omega
theorem zcf{w:World}{base e size:Nat}{v:Value}{n p n' c:Nat}{xs:List Value}(h:w.ownsRow base e size v n xs)(hv:v=.slice (some ⟨p,0,none⟩) n' c):n'=n/\∀ j,j<n*size->w.cell? ⟨p,j,none⟩=some (xs.getD j undef):=by
 subst hv
 refine⟨?_,fun j hj=>?_⟩
 . rcases h.2 with ⟨h0,_⟩ | ⟨g,cap,cur,h0,_⟩
   . cases h0
   . cases h0;rfl
 . have:=h.cells (g:=p) rfl j (xs.getD j undef) (by rw[List.getD_eq_getElem?_getD,List.getElem?_eq_getElem (by rw[h.1];exact hj)];rfl)
   rwa [add_lit,Nat.zero_add]at this
section
variable {P:Program} {B:Bs} {F:Nat->Prop} {β:Gh} {st:St} {a:Act} {w:World}
theorem zj7(cols:List (Nat × TypeId)) : ∀ (k:Nat) (l:List AV),(zk4 cols k l).length=l.length
 | _,[]=>rfl
 | k,x :: r=>by simp[zk4,zj7 cols (k+1) r]
theorem zoN(cols:List (Nat × TypeId)) : ∀ (k:Nat) (l:List AV) (j:Nat),(zk4 cols k l).getD j .undef=match zaA cols (k+j)with | some _=>.undef | none=>l.getD j .undef
 | k,[],j=>by simp[zk4];split <;> rfl
 | k,x :: r,0=>by simp[zk4];rfl
 | k,x :: r,j+1=>by
  have:=zoN cols (k+1) r j
  simp only[zk4,List.getD_cons_succ]
  rw[this,show k+1+j=k+(j+1)by omega]
theorem zmw (h:HOk F w β st.heap) {t:TypeId} {x r:AV} {v:Value} (hx:V F w β x v) (hr:st.load P t x=some r) :
 ∃ y,V F w β r y/\(Instr.loadAt t v).run P w=.ok y w:=by
 unfold St.load at hr
 split at hr
 . rename_i b off
   obtain ⟨hb,rfl⟩:=zhC hx
   split at hr
   . rename_i e cs hcs
     obtain ⟨ys,T,h1,h2,_,h3⟩:=h.blk b _ hcs
     obtain ⟨y,hy,hrun⟩:=zew (P:=P) hr (β.b b) 0 (fun j=>ys.getD j undef) h3
     refine⟨y,hy,?_⟩
     have:=hrun w fun j hj=>by rw[Nat.zero_add,cell_of_row w (β.b b) j ys T (0,0) h1];simp[Array.getD,show j<ys.size by omega]
     simpa [Instr.loadAt,Instr.sureAddr,Sem.run_bind]using this
   . rename_i ty x hcs
     have hd:D F w (.op ty (some x)) (.pointer (some ⟨β.b b,0,none⟩)):=h.blk b _ hcs
     obtain ⟨b',o,Y,he,hF,hb,hc,hD⟩:=zzi hd
     cases he
     obtain ⟨y,hy,hrun⟩:=zew (P:=P) (β:=β) hr (β.b b) 0 Y (fun j hj=>(hD j (by rwa [zaj]at hj)).ofD)
     refine⟨y,hy,?_⟩
     have:=hrun w fun j hj=>hc j (by rwa [zaj]at hj)
     simpa [Instr.loadAt,Instr.sureAddr,Sem.run_bind]using this
   . cases hr
 . rename_i ty x
   obtain ⟨b,o,Y,rfl,hF,hb,hc,hD⟩:=zzi hx
   obtain ⟨y,hy,hrun⟩:=zew (P:=P) hr b o Y (fun j hj=>hD j (by rwa [zaj]at hj))
   refine⟨y,hy,?_⟩
   have:=hrun w fun j hj=>hc j (by rwa [zaj]at hj)
   simpa [Instr.loadAt,Instr.sureAddr,Sem.run_bind]using this
 . rename_i ty xs i off
   obtain ⟨b,o,Y,hi,rfl,hF,hb,hc,hD⟩:=ztL hx
   obtain ⟨y,hy,hrun⟩:=zew (P:=P) hr b o Y (fun j hj=>hD j (by rwa [zaj]at hj))
   refine⟨y,hy,?_⟩
   have:=hrun w fun j hj=>hc j (by rwa [zaj]at hj)
   simpa [Instr.loadAt,Instr.sureAddr,Sem.run_bind]using this
 . rename_i b sz i off
   obtain ⟨p,n,c,hb,hv,hi,rfl⟩:=zlW hx
   split at hr
   . rename_i e ty cols hole xs hk
     split at hr
     . rename_i hsz
       have hsz':=Nat.eq_of_beq_eq_true hsz
       obtain ⟨Vs,ho,_,_,hd⟩:=h.blk b _ hk
       obtain ⟨hn,hcell⟩:=zcf ho hv
       subst hn
       obtain ⟨y,hy,hrun⟩:=zew (P:=P) (β:=β) hr p (i*sz) (fun j=>Vs.getD (i*ty.sz+j) undef) (fun j hj=>by
        rw[zj7,zaj]at hj
        rw[zoN,Nat.zero_add]
        cases hc:zaA cols j with
        | none=>exact((hd i j hi hj).toD hc).ofD
        | some _=>exact .undef _)
       refine⟨y,hy,?_⟩
       have:=hrun w fun j hj=>by
        rw[zj7,zaj]at hj
        rw[← hsz']
        exact hcell _ (zb0 hi hj)
       simpa [Instr.loadAt,Instr.sureAddr,Sem.run_bind]using this
     . cases hr
   . cases hr
 . cases hr
theorem zlq{s:TypeId}{f:Nat}{fl:Field}(hf:ziJ P s f=some fl){n:Nat}(hs:P.cellsOf fl.type=n+1){x r:AV}{v:Value}(hx:V F w β x v)(hr:x.add fl.offset=some r) :
 ∃ y,V F w β r y/\(Instr.fieldAt s v f).run P w=.ok y w:=by
 unfold ziJ at hf
 split at hf
 . rename_i fs hu
   have hi : ∃ i,P.info? fl.type=some i/\i.size=n+1:=by
    unfold Program.cellsOf at hs
    cases hq:P.info? fl.type with
    | none=>simp[hq]at hs
    | some i=>simp[hq]at hs;exact⟨i,rfl,hs⟩
   obtain ⟨i,hi,hin⟩:=hi
   have key : ∀ b o (w':World),(Instr.fieldAt s (.pointer (some ⟨b,o,none⟩)) f).run P w'=.ok (.pointer (some ⟨b,o+fl.offset,none⟩)) w':=by
    intro b o w'
    simp[Instr.fieldAt,Sem.run_bind,run_underlying hu w',hf,Instr.sureAddr,fieldPlace,zaP hi w',hin,add_lit]
   unfold AV.add at hr
   split at hr
   . simp at hr;subst hr
     obtain ⟨hb,rfl⟩:=zhC hx
     exact⟨_,.ref _ _ hb,key _ _ w⟩
   . simp at hr;subst hr
     obtain ⟨b,o,Y,hi',rfl,hF,hb,hc,hd⟩:=ztL hx
     exact⟨_,.el _ _ _ _ b o Y hi' hF hb hc hd,by rw[key];simp[Nat.add_assoc]⟩
   . simp at hr;subst hr
     obtain ⟨p,n',c,hb,hv,hi',rfl⟩:=zlW hx
     exact⟨_,.oel _ _ _ _ p n' c hb hv hi',by rw[key];simp[Nat.add_assoc]⟩
   . simp at hr;subst hr
     obtain ⟨hb,hi',rfl⟩:=zrC hx
     exact⟨_,.rex _ _ _ _ _ _ hb hi',by rw[key];simp[Nat.add_assoc]⟩
   . simp at hr;subst hr
     obtain ⟨b,o,Y,hi',rfl,hF,hb,hc,hd⟩:=ztL (zFq hx)
     exact⟨_,.el _ _ _ _ b o Y hi' hF hb hc hd,by rw[key];simp⟩
   . cases hr
 . cases hf
theorem zJG(c:Clo):c.out=.v .nilFunc ∨ ∃ f as cs,c.out=.fn f as cs:=by cases c <;> first | exact .inl rfl | exact .inr ⟨_,_,_,rfl⟩
theorem zda{x:AV}{y:Value}(h:V F w β x y)(hx:zkN x=true):y.cells=#[y]/\y.oneCell'=true:=by
 cases h with
 | v z=>cases y <;> simp[zkN]at hx <;> simp[Value.cells,Value.oneCell']
 | own b hb A n c hv=>rw[hv];simp[Value.cells,Value.oneCell']
 | any _ h=>cases y <;> first | (cases h;done) | exact⟨rfl,rfl⟩
 | clo c y h=>
  rcases zJG c with e | ⟨f,as,cs,e⟩
  . rw[e]at h;cases h;simp[Value.cells,Value.oneCell']
  . rw[e]at h;cases h;simp[Value.cells,Value.oneCell']
 | undef=>simp[zkN]at hx
 | agg=>simp[zkN]at hx
 | tup=>simp[zkN]at hx
 | _=>simp[Value.cells,Value.oneCell']
theorem zhR : ∀ {cs:List AV},zl6 cs=true->∀ j,j<cs.length->zkN (cs.getD j .undef)=true
 | [],_,j,hj=>by simp at hj
 | c :: cs,h,j,hj=>by
  simp only[zl6]at h
  split at h
  . rename_i h1
    cases j with
    | zero=>simpa using h1
    | succ j=>simpa using zhR h j (by simpa using hj)
  . cases h
theorem zg3{x:AV}{y:Value}{cs:List AV}(h:V F w β x y)(hc:x.cells=some cs):y.cells.size=cs.length/\∀ j,j<cs.length->V F w β (cs.getD j .undef) (y.cells.getD j undef)/\(y.cells.getD j undef).oneCell'=true:=by
 unfold AV.cells at hc
 split at hc
 . rename_i cs'
   obtain ⟨ys,rfl,hl,h⟩:=ziy h
   split at hc
   . rename_i h1
     simp at hc;subst hc
     exact⟨hl,fun j hj=>⟨h j hj,(zda (h j hj) (zhR h1 j hj)).2⟩⟩
   . cases hc
 . split at hc
   . rename_i h1
     simp at hc;subst hc
     obtain ⟨g1,g2⟩:=zda h h1
     rw[g1]
     refine⟨rfl,fun j hj=>?_⟩
     obtain rfl:j=0:=by simpa using hj
     exact⟨h,g2⟩
   . cases hc
theorem zd5 : ∀ {cs:List AV} {off:Nat} {xs cs':List AV},wr cs off xs=some cs'->cs'.length=cs.length/\(xs=[] ∨ off+xs.length<=cs.length)/\∀ j,cs'.getD j .undef=if off<=j/\j<off+xs.length then xs.getD (j-off) .undef else cs.getD j .undef
 | cs,off,[],cs',h=>by
  simp[wr]at h;subst h
  exact⟨rfl,.inl rfl,fun j=>by rw[if_neg (by simp)]⟩
 | c :: cs,0,x :: xs,cs',h=>by
  simp only[wr]at h
  split at h
  . rename_i r hr
    simp at h;subst h
    obtain ⟨h1,h2,h3⟩:=zd5 hr
    refine⟨by simp[h1],.inr (by rcases h2 with rfl | h2 <;> simp <;> omega),fun j=>?_⟩
    cases j with
    | zero=>simp
    | succ j=>
     have:=h3 j
     simp only[List.getD_cons_succ,Nat.sub_zero,Nat.zero_le,true_and,List.length_cons]at this ⊢
     rw[this]
     by_cases hj:j<0+xs.length
     . rw[if_pos hj,if_pos (by omega)]
     . rw[if_neg hj,if_neg (by omega)]
  . cases h
 | c :: cs,n+1,x :: xs,cs',h=>by
  simp only[wr]at h
  split at h
  . rename_i r hr
    simp at h;subst h
    obtain ⟨h1,h2,h3⟩:=zd5 hr
    refine⟨by simp[h1],.inr (by rcases h2 with h2 | h2 <;> simp at h2 ⊢ <;> omega),fun j=>?_⟩
    cases j with
    | zero=>simp
    | succ j=>
     have:=h3 j
     simp only[List.getD_cons_succ]
     rw[this]
     by_cases hj:n<=j/\j<n+(x :: xs).length
     . rw[if_pos hj,if_pos (by omega),show j+1-(n+1)=j-n by omega]
     . rw[if_neg hj,if_neg (by omega)]
  . cases h
 | [],0,x :: xs,cs',h=>by simp[wr]at h
 | [],n+1,x :: xs,cs',h=>by simp[wr]at h
theorem zAF(l:List Value) : ∀ (k off:Nat) (ys:Array Value),((l.zipIdx k).foldl (fun cs (p:Value × Nat)=>cs.setIfInBounds (off+p.2) p.1) ys).size=ys.size/\
 ∀ j,j<ys.size->((l.zipIdx k).foldl (fun cs (p:Value × Nat)=>cs.setIfInBounds (off+p.2) p.1) ys).getD j undef=if off+k<=j/\j<off+k+l.length then l.getD (j-(off+k)) undef else ys.getD j undef:=by
 induction l with
 | nil=>intro k off ys;exact⟨rfl,fun j hj=>by rw[if_neg (by simp)];rfl⟩
 | cons x l ih=>
  intro k off ys
  obtain ⟨h1,h2⟩:=ih (k+1) off (ys.setIfInBounds (off+k) x)
  simp only[List.zipIdx_cons,List.foldl_cons]
  refine⟨by rw[h1];simp,fun j hj=>?_⟩
  rw[h2 j (by simpa using hj)]
  by_cases hjk:j=off+k
  . subst hjk
    rw[if_neg (by omega),if_pos (by simp)]
    simp[Array.getD,hj]
  . by_cases hr:off+(k+1)<=j/\j<off+(k+1)+l.length
    . rw[if_pos hr,if_pos (by simp;omega),show j-(off+k)=(j-(off+(k+1)))+1 by omega]
      rfl
    . rw[if_neg hr,if_neg (by simp;omega)]
      simp[Array.getD,hj,Array.getElem_setIfInBounds,show ¬ off+k=j by omega]
theorem zhU{s:Sem Value}{r:AV}(h:(zeU P s).map zhH=some r) : ∃ y,V F w β r y/\(do pure (Next.value (← s)):Sem Next).run P w=.ok (.value y) w:=by
 cases hc:zeU P s with
 | none=>simp[hc]at h
 | some y=>
  simp[hc]at h;subst h
  exact⟨y,zg0 y,by simp[Sem.run_bind,zdz hc w]⟩
theorem zhX (h:Rel B F β st a w) (place:Nat->Option (Nat × Nat)) : ∀ (l:List (Nat × Operand)) (cs cs':List AV) (ys:Array Value),ys.size=cs.length->(∀ j,j<cs.length->V F w β (cs.getD j .undef) (ys.getD j undef))->
 zgl place cs (zeL st l)=some cs'->∃ ys',Instr.fill place ys (l.map fun p=>(p.1,a.eval p.2))=some ys'/\ys'.size=cs'.length/\∀ j,j<cs'.length->V F w β (cs'.getD j .undef) (ys'.getD j undef)
 | [],cs,cs',ys,hl,hc,hf=>by simp[zeL,zgl]at hf;subst hf;exact⟨ys,rfl,hl,hc⟩
 | (i,o) :: l,cs,cs',ys,hl,hc,hf=>by
  simp only[zeL,zgl]at hf
  split at hf
  . rename_i off size hp
    split at hf
    . rename_i xs hxs
      split at hf
      . rename_i cs1 e1 e2 hw
        obtain ⟨g1,g2⟩:=zg3 (h.ev o) hxs
        obtain ⟨k1,k2,k3⟩:=zd5 hw
        have e1':xs.length=size:=Nat.eq_of_beq_eq_true e1
        have e2':off+xs.length<=cs.length:=Nat.le_of_ble_eq_true e2
        obtain ⟨f1,f2⟩:=zAF (a.eval o).cells.toList 0 off ys
        have:=zhX h place l cs1 cs' ((a.eval o).cells.zipIdx.foldl (fun cs (p:Value × Nat)=>cs.setIfInBounds (off+p.2) p.1) ys) (by
         rw[← Array.foldl_toList,Array.toList_zipIdx];rw[f1,hl,k1]) (fun j hj=>by
         rw[← Array.foldl_toList,Array.toList_zipIdx,f2 j (by omega),k3 j]
         simp only[Nat.add_zero,Array.length_toList,g1]
         by_cases hr:off<=j/\j<off+xs.length
         . rw[if_pos hr,if_pos hr]
           have:=(g2 (j-off) (by omega)).1
           simpa [List.getD,Array.getD,show j-off<(a.eval o).cells.size by omega]using this
         . rw[if_neg hr,if_neg hr]
           exact hc j (by omega)) hf
        obtain ⟨ys',q1,q2,q3⟩:=this
        refine⟨ys',?_,q2,q3⟩
        simp only[List.map_cons,Instr.fill,hp,g1,e1']
        rw[if_neg (by simp;omega)]
        exact q1
      . cases hf
    . cases hf
  . cases hf
theorem zi1{t:TypeId}{cs:Array Value}{off:Nat}{v:Value}(h:zoW P t cs off=some v)(w':World):(part t cs off).run P w'=.ok v w':=by
 unfold zoW at h
 unfold part
 split at h
 . rename_i ha
   simp[Sem.run_bind,zdW ha w',h]
 . rename_i n ha
   obtain ⟨h1,i,hi,hs⟩:=zdX ha
   simp at h;subst h
   simp[Sem.run_bind,h1 w',zaP hi w',hs]
 . cases h
theorem zff : ∀ (d:Nat) (t:TypeId) (x y:Value) (b:Bool),eqV P d t x y=some b->∀ w':World,(Op.equalIn d t x y).run P w'=.ok b w'
 | 0,t,x,y,b,h,w'=>by simp[eqV]at h
 | d + 1, t, x,y,b,h,w'=>by
  have ih:=zff d
  simp only[eqV]at h
  split at h
  . rename_i hu;simp at h;subst h;exact run_equalIn_bool w' d t _ _ hu
  . rename_i hu
    split at h
    . rename_i e _
      subst e
      simp at h;subst h;exact run_equalIn_int w' d t _ _ _ _ hu
    . cases h
  . rename_i hu;simp at h;subst h;exact run_equalIn_string w' d t _ _ hu
  . rename_i fs xs ys hu
    split at h
    . rename_i hp
      have hf:P.fieldsOf t=fs:=by simp[Program.fieldsOf,hu]
      rw[run_equalIn_struct (P:=P) w' d t xs ys (by rw[hf];exact hu) hp,hf]
      revert h
      generalize fs.toList=l
      revert b
      induction l with
      | nil=>intro b h;simp[zAu]at h;subst h;simp[Op.eqFields]
      | cons fl r ihl=>
       intro b h
       simp only[zAu]at h
       split at h
       . rename_i hn
         have hn' : ¬ fl.name ≠ "_" := by simpa using hn
         rw[Op.eqFields,if_neg hn']
         exact ihl b h
       . rename_i hn
         have hn':fl.name ≠ "_" := by simpa using hn
         split at h
         . rename_i va vb ha hb
           split at h
           . rename_i p q hp' hq
             simp at h;subst h
             have hr:=ihl q hq
             simp only[Op.eqFields,if_pos hn',Sem.run_bind,zi1 ha w',zi1 hb w',ih _ _ _ _ hp' w',Result.andThen_ok]
             cases p
             . simp
             . simpa using hr
           . cases h
         . cases h
    . cases h
  . rename_i n e xs ys hu
    split at h
    . rename_i i hi
      have hc:P.cellsOf e=i.size:=by simp[Program.cellsOf,hi]
      rw[run_equalIn_array w' d xs ys hu hi,hc]
      revert h
      generalize List.range n=l
      revert b
      induction l with
      | nil=>intro b h;simp[zDu]at h;subst h;simp[Op.eqItems]
      | cons j r ihl=>
       intro b h
       simp only[zDu]at h
       split at h
       . rename_i va vb ha hb
         split at h
         . rename_i p q hp' hq
           simp at h;subst h
           have hr:=ihl q hq
           simp only[Op.eqItems,Sem.run_bind,zi1 ha w',zi1 hb w',ih _ _ _ _ hp' w',Result.andThen_ok]
           cases p
           . simp
           . simpa using hr
         . cases h
       . cases h
    . cases h
  . cases h
theorem zAv(d:Nat){t e:TypeId}(p:Option Addr)(hu:P.underlying t=some (.pointer e)):(Op.equalIn (d+1) t (.pointer p) (.pointer none)).run P w=.ok p.isNone w/\(Op.equalIn (d+1) t (.pointer none) (.pointer p)).run P w=.ok p.isNone w:=by
 constructor
 . unfold Op.equalIn;rw[Sem.run_bind,run_underlying hu w];cases p <;> rfl
 . unfold Op.equalIn;rw[Sem.run_bind,run_underlying hu w];cases p <;> rfl
theorem zly{t e:TypeId}(p:Option Addr)(hu:P.underlying t=some (.pointer e)) :
 (binOp .eql t (.pointer p) (.pointer none)).run P w=.ok (.bool p.isNone) w/\(binOp .eql t (.pointer none) (.pointer p)).run P w=.ok (.bool p.isNone) w/\
 (binOp .neq t (.pointer p) (.pointer none)).run P w=.ok (.bool (!p.isNone)) w/\(binOp .neq t (.pointer none) (.pointer p)).run P w=.ok (.bool (!p.isNone)) w:=by
 obtain ⟨h1,h2⟩:=zAv (P:=P) (w:=w) 9999 p hu
 have e1:(Op.equal t (.pointer p) (.pointer none)).run P w=.ok p.isNone w:=h1
 have e2:(Op.equal t (.pointer none) (.pointer p)).run P w=.ok p.isNone w:=h2
 refine⟨?_,?_,?_,?_⟩ <;> simp only[binOp] <;> simp[e1,e2]
theorem zk6{op:BinOp}{t:TypeId}{x r:AV}{v:Value}(hx:V F w β x v)(hr:zvJ P op t x=some r) :
 ∃ y,V F w β r y/\(binOp op t v (.pointer none)).run P w=.ok y w/\(binOp op t (.pointer none) v).run P w=.ok y w/\∃ p,v=.pointer p:=by
 have key : ∀ b,x.isNil=some b->∃ p,v=.pointer p/\b=p.isNone:=by
  intro b hb
  unfold AV.isNil at hb
  split at hb
  . cases hb;obtain ⟨_,rfl⟩:=zhC hx;exact⟨_,rfl,rfl⟩
  . cases hb;obtain ⟨_,_,_,_,rfl,_⟩:=ztL hx;exact⟨_,rfl,rfl⟩
  . cases hb;obtain ⟨_,_,_,_,_,_,rfl⟩:=zlW hx;exact⟨_,rfl,rfl⟩
  . cases hb;obtain ⟨_,_,rfl⟩:=zrC hx;exact⟨_,rfl,rfl⟩
  . rename_i t' z
    cases hb
    cases z with
    | none=>cases hx;exact⟨_,rfl,rfl⟩
    | some z=>obtain ⟨_,_,_,rfl,_⟩:=zzi hx;exact⟨_,rfl,rfl⟩
  . cases hb
 unfold zvJ at hr
 split at hr
 . rename_i e b hu hb
   cases hr
   obtain ⟨p,rfl,rfl⟩:=key b hb
   exact⟨_,.v _,(zly p hu).1,(zly p hu).2.1,p,rfl⟩
 . rename_i e b hu hb
   cases hr
   obtain ⟨p,rfl,rfl⟩:=key b hb
   exact⟨_,.v _,(zly p hu).2.2.1,(zly p hu).2.2.2,p,rfl⟩
 . cases hr
theorem zfg(h:Rel B F β st a w)(l:List Operand) : ∀ j,j<(l.map st.ev).length->V F w β ((l.map st.ev).getD j .undef) ((l.map a.eval).getD j undef):=fun j hj=>by
 have hj':j<l.length:=by simpa using hj
 have:=h.ev l[j]
 simpa [List.getD,hj']using this
def zu3(P:Program)(F:Nat->Prop)(β:Gh)(o:Oper)(a:Act)(w:World)(r:AV):Prop:=∃ y,V F w β r y/\(execOp a.eval o).run P w=.ok (.value y) w
theorem zg8 (h : Rel B F β st a w) {o:Oper} {r:AV} (hr:evQ P st o=some r):zu3 P F β o a w r:=by
 unfold evQ at hr
 unfold zu3 execOp
 split at hr
 . rename_i x hop
   simp at hr;subst hr
   exact⟨_,h.ev x,by simp[hop]⟩
 . rename_i x hop
   simp at hr;subst hr
   exact⟨_,h.ev x,by simp[hop]⟩
 . rename_i t x hop
   obtain ⟨y,hy,hrun⟩:=zmw h.heap (h.ev x) hr
   exact⟨y,hy,by simp[hop,Sem.run_bind,hrun]⟩
 . rename_i op t x y u hop
   split at hr
   . rename_i xs ys hx hy
     have hrun : ∀ (op:BinOp) (w':World),P.eqGuardType P.depth t=false->(eqGuard op t x y (a.eval x) (a.eval y)).run P w'=.ok () w':=fun op w' hg=>by
      rw[zej (h.ev x) hx,zej (h.ev y) hy]
      exact run_eqGuard_agg (P:=P) w' op t x y xs ys hg
     split at hr
     . rename_i b hg hb
       simp at hr;subst hr
       refine⟨.bool b,.v _,?_⟩
       have h1:=hrun .eql w hg
       simp only[hop,Sem.run_bind,h1,Result.andThen_ok]
       rw[zej (h.ev x) hx,zej (h.ev y) hy,run_eql_struct w,zff _ _ _ _ _ hb w]
       rfl
     . rename_i b hg hb
       simp at hr;subst hr
       refine⟨.bool (!b),.v _,?_⟩
       have h1:=hrun .neq w hg
       simp only[hop,Sem.run_bind,h1,Result.andThen_ok]
       rw[zej (h.ev x) hx,zej (h.ev y) hy,run_neq_struct w,zff _ _ _ _ _ hb w]
       rfl
     . cases hr
   . rename_i vx vy _ hx hy
     obtain ⟨z,hz,hrun⟩:=zhU (F:=F) (w:=w) (β:=β) hr
     refine⟨z,hz,?_⟩
     rw[← zej (h.ev x) hx,← zej (h.ev y) hy]at hrun
     simpa [hop]using hrun
   . rename_i hx hy
     obtain ⟨z,hz,hrun,_,p,hp⟩:=zk6 (P:=P) (h.ev x) hr
     have hv:=zej (h.ev y) hy
     refine⟨z,hz,?_⟩
     rw[hp]at hrun
     simp[hop,hv,hp,eqGuard,Sem.run_bind,hrun]
   . rename_i hx hy
     obtain ⟨z,hz,_,hrun,p,hp⟩:=zk6 (P:=P) (h.ev y) hr
     have hv:=zej (h.ev x) hx
     refine⟨z,hz,?_⟩
     rw[hp]at hrun
     simp[hop,hv,hp,eqGuard,Sem.run_bind,hrun]
   . cases hr
 . rename_i op t x hop
   split at hr
   . rename_i vx hx
     obtain ⟨z,hz,hrun⟩:=zhU (F:=F) (w:=w) (β:=β) hr
     refine⟨z,hz,?_⟩
     rw[← zej (h.ev x) hx]at hrun
     simpa [hop]using hrun
   . cases hr
 . rename_i s d x hop
   split at hr
   . rename_i vx hx
     obtain ⟨z,hz,hrun⟩:=zhU (F:=F) (w:=w) (β:=β) hr
     refine⟨z,hz,?_⟩
     rw[← zej (h.ev x) hx]at hrun
     simpa [hop]using hrun
   . cases hr
 . rename_i s x f hop
   split at hr
   . rename_i fl hf
     split at hr
     . cases hr
     . rename_i n hs
       obtain ⟨y,hy,hrun⟩:=zlq hf hs (h.ev x) hr
       exact⟨y,hy,by simp[hop,Sem.run_bind,hrun]⟩
   . cases hr
 . rename_i s x f hop
   split at hr
   . rename_i fl cs hf hx
     have hv:=h.ev x
     rw[hx]at hv
     obtain ⟨ys,hy,hl,hc⟩:=ziy hv
     obtain ⟨y,hV,hrun⟩:=zuA (P:=P) hr hl hc
     unfold ziJ at hf
     split at hf
     . rename_i fs hu
       exact⟨y,hV,by simp[hop,hy,Instr.field,Sem.run_bind,run_underlying hu w,hf,asAgg,hrun w]⟩
     . cases hf
   . cases hr
 . rename_i x i hop
   split at hr
   . rename_i vs hx
     have hv:=h.ev x
     rw[hx]at hv
     obtain ⟨ys,hy,hl,hc⟩:=zEA hv
     obtain ⟨hlt,rfl⟩:=List.getElem?_eq_some_iff.1 hr
     have hlt':i<ys.size:=by omega
     have hd:=hc i hlt
     simp only[List.getD,Array.getD,List.getElem?_eq_getElem hlt,hlt',dite_true,Option.getD_some]at hd
     exact⟨ys[i],hd,by simp[hop,hy,Instr.extract,hlt']⟩
   . cases hr
 . rename_i t parts hop
   split at hr
   . rename_i pl z hp hz
     cases hf:zgl pl z (zeL st parts.toList)with
     | none=>simp[hf]at hr
     | some cs'=>
      simp[hf]at hr;subst hr
      unfold zdp at hz
      split at hz
      . rename_i it hi
        split at hz
        . rename_i zv hzv
          simp at hz;subst hz
          obtain ⟨ys',q1,q2,q3⟩:=zhX h pl parts.toList _ cs' zv.cells (by simp) (fun j hj=>by
           have hj':j<zv.cells.size:=by simpa using hj
           simp only[List.getD,List.getElem?_map,Array.getElem?_toList,hj',Array.getElem?_eq_getElem,Option.map_some,Option.getD_some,Array.getD,dite_true]
           exact .v _) hf
          refine⟨.agg ys',.agg _ _ q2 q3,?_⟩
          have hb:P.built t (parts.map fun(i,x)=>(i,a.eval x)).toList=some ys':=by
           unfold Program.built
           unfold zvM at hp
           cases hu:P.underlying t with
           | none=>simp[hu]at hp
           | some d=>
            cases d <;> simp[hu]at hp
            . rename_i n e
              cases hie:P.info? e with
              | none=>simp[hie]at hp
              | some ie=>
               simp[hie]at hp;subst hp
               simp only[hi,hu,hzv,hie]
               simpa using q1
            . rename_i fields
              cases hm:fields.toList.mapM (fun f=>(P.info? f.type).map fun i=>(f.offset,i.size))with
              | none=>simp[hm]at hp
              | some places=>
               simp[hm]at hp;subst hp
               simp only[hi,hu,hzv,hm]
               simpa using q1
          simp[hop,Sem.run_bind,run_build w t _ ys' hb]
        . cases hz
      . cases hz
   . cases hr
 . rename_i f fi ca hop
   simp at hr;subst hr
   refine⟨.func f (fi.map a.eval) (ca.map a.eval),.fn _ _ _ _ _ (by simp) (by simp) (fun j hj=>?_) (fun j hj=>?_),by simp[hop,Instr.makeFunc]⟩
   . have:=zfg h fi.toList j (by simpa using hj)
     simpa [Array.getD_eq_getD_getElem?,List.getD]using this
   . have:=zfg h ca.toList j (by simpa using hj)
     simpa [Array.getD_eq_getD_getElem?,List.getD]using this
 . rename_i t x hop
   split at hr
   . cases hr
   . rename_i d hni hu
     simp at hr;subst hr
     refine⟨.iface t (a.eval x),.ifc _ _ _ (h.ev x),?_⟩
     cases d <;> simp[hop,Instr.makeInterface,Sem.run_bind,run_underlying hu w] <;> first | rfl | exact absurd rfl (hni _)
   . cases hr
 . cases hr
theorem zbw(t:Ty):0<t.sz:=by cases t <;> simp[Ty.sz]
theorem zcY{e:TypeId}{n:Nat}(h:P.cellsOf e=n)(hn:0<n) : ∃ i,P.info? e=some i/\i.size=n:=by
 unfold Program.cellsOf at h
 cases hq:P.info? e with
 | none=>simp[hq]at h;omega
 | some i=>simp[hq]at h;exact⟨i,rfl,h⟩
theorem inR_iff{i:Int}{n:Nat}:zO i n=true ↔ 0<=i/\i<n:=by simp[zO]
theorem zfY{t e:TypeId}{ty:Ty}{xs:List ty.T}{n:Int}{k:IntKind}{v:Value}(hu:P.underlying t=some (.slice e))(hs:P.cellsOf e=ty.sz)(hin:zO n xs.length=true)(hv:V F w β (.sl ty xs) v) :
 ∃ y,V F w β (.el ty xs n.toNat 0) y/\(Instr.indexAt t v (.int k n)).run P w=.ok y w:=by
 obtain ⟨i,hi,hsz⟩:=zcY hs (zbw ty)
 obtain ⟨h0,h1⟩:=inR_iff.1 hin
 cases hv with
 | sl0=>simp at h1;omega
 | sl _ _ b o c Y hF hb hl hcap hc h=>
  refine⟨.pointer (some ⟨b,o+n.toNat*ty.sz+0,none⟩),.el _ _ _ _ b (o+n.toNat*ty.sz) (Y n.toNat) (by omega) hF hb (fun j hj=>?_) (fun j hj=>h _ _ (by omega) hj),?_⟩
  . rw[Nat.add_assoc];exact hc _ _ (by omega) hj
  . have h1':n<(xs.length:Int):=h1
    simp[Instr.indexAt,asIntOf,Sem.run_bind,run_underlying hu w,h0,h1',zaP hi w,hsz,add_lit]
theorem zmi{t e e':TypeId}{ty:Ty}{xs:List ty.T}{n:Int}{k:IntKind}{b:Nat}{cols:List (Nat × TypeId)}{hole:zbI}(hu:P.underlying t=some (.slice e))(hs:P.cellsOf e=ty.sz)(hin:zO n xs.length=true)(hb:β.l b)(hk:BlkOk F w β b (.row e' ty cols hole xs)) :
 ∃ y,V F w β (.oel b ty.sz n.toNat 0) y/\(Instr.indexAt t (β.v b) (.int k n)).run P w=.ok y w:=by
 obtain ⟨i,hi,hsz⟩:=zcY hs (zbw ty)
 obtain ⟨h0,h1⟩:=inR_iff.1 hin
 obtain ⟨Vs,ho,_,_⟩:=hk
 rcases ho.2 with ⟨hv,hn⟩ | ⟨g,cap,cur,hv,hg,hh,hr⟩
 . omega
 . refine⟨.pointer (some ⟨g,n.toNat*ty.sz+0,none⟩),.oel b ty.sz n.toNat 0 g xs.length cap hb hv (by omega),?_⟩
   have h1':n<(xs.length:Int):=h1
   simp[hv,Instr.indexAt,asIntOf,Sem.run_bind,run_underlying hu w,h0,h1',zaP hi w,hsz,add_lit]
theorem zmj{t e:TypeId}{ty:Ty}{b off m:Nat}{n:Int}{k:IntKind}{v:Value}(hu:P.underlying t=some (.array m e))(hs:P.cellsOf e=ty.sz)(hin:zO n m=true)(hv:V F w β (.ref b off) v) :
 ∃ y,V F w β (.rex b off ty m n.toNat 0) y/\(Instr.indexAt t v (.int k n)).run P w=.ok y w:=by
 obtain ⟨i,hi,hsz⟩:=zcY hs (zbw ty)
 obtain ⟨h0,h1⟩:=inR_iff.1 hin
 obtain ⟨hb,rfl⟩:=zhC hv
 have h1':n<(m:Int):=h1
 refine⟨.pointer (some ⟨β.b b,off+n.toNat*ty.sz+0,none⟩),.rex b off ty m n.toNat 0 hb (by omega),?_⟩
 simp[Instr.indexAt,asIntOf,Sem.run_bind,run_underlying hu w,Instr.sureAddr,h0,h1',zaP hi w,hsz,add_lit]
theorem zn3{t e:TypeId}{b sz o m:Nat}{n:Int}{k:IntKind}{v:Value}(hu:P.underlying t=some (.slice e))(hs:P.cellsOf e=sz)(hsz0:0<sz)(hin:zO n m=true)(hv:V F w β (.vw b sz o m) v) :
 ∃ y,V F w β (.oel b sz (o+n.toNat) 0) y/\(Instr.indexAt t v (.int k n)).run P w=.ok y w:=by
 obtain ⟨i,hi,hsz⟩:=zcY hs hsz0
 obtain ⟨h0,h1⟩:=inR_iff.1 hin
 obtain ⟨A,c',hb,hc,rfl,hA⟩:=zGT hv
 obtain ⟨p,N,c,hv',hn,rfl⟩:=hA (by omega)
 refine⟨.pointer (some ⟨p,(o+n.toNat)*sz+0,none⟩),.oel b sz (o+n.toNat) 0 p N c hb hv' (by omega),?_⟩
 have h1':n<(m:Int):=h1
 simp[Instr.indexAt,asIntOf,Sem.run_bind,run_underlying hu w,h0,h1',zaP hi w,hsz,add_lit,Nat.add_mul]
theorem zDk(s:ByteArray)(n:Int)(h:zO n s.size=true) : ∃ b,s[n.toNat]?=some b/\((b.toNat:Nat):Int)=(((s.data.getD n.toNat 0).toNat:Nat):Int):=by
 obtain ⟨h0,h1⟩:=inR_iff.1 h
 have hlt:n.toNat<s.size:=by omega
 have hlt':n.toNat<s.data.size:=hlt
 refine⟨s[n.toNat],by rw[getElem?_pos s n.toNat hlt],?_⟩
 rw[show s.data.getD n.toNat 0=s.data[n.toNat]from by rw[Array.getD_eq_getD_getElem?,Array.getElem?_eq_getElem hlt'];rfl]
 rfl
theorem inS_iff{l h:Int}{n:Nat}:inS l h n=true ↔ 0<=l/\l<=h/\h<=n:=by simp[inS,and_assoc]
def Bd(x:Option Value)(d:Nat)(n:Int):Prop:=(x=none/\n=d) ∨ ∃ k,x=some (.int k n)
theorem zcJ(h:Rel B F β st a w){x:Option Operand}{d:Nat}{n:Int}(hb:bnd st x d=some n):Bd (x.map a.eval) d n:=by
 unfold bnd at hb
 cases x with
 | none=>simp at hb;exact .inl ⟨rfl,hb.symm⟩
 | some x=>
  have hv:=h.ev x
  simp only at hb
  split at hb
  . rename_i k n' hx
    simp at hb;subst hb
    rw[hx]at hv
    exact .inr ⟨k,by rw[Option.map_some,V_v hv]⟩
  . cases hb
theorem zia{isS:Bool}{len cap:Nat}{lo hi:Option Value}{l h:Int}(hlo:Bd lo 0 l)(hhi:Bd hi len h)(h0:0<=l)(h1:l<=h)(h2:h<=len)(hc:len<=cap)(w':World) :
 (Instr.sliceBounds isS len cap lo hi none).run P w'=.ok (l.toNat,h.toNat,cap) w':=by
 have hh:0<=h:=by omega
 have hcap:h<=(cap:Int):=by omega
 have hlh:l<=(h.toNat:Int):=by omega
 rcases hlo with ⟨rfl,rfl⟩ | ⟨k1,rfl⟩ <;> rcases hhi with ⟨rfl,rfl⟩ | ⟨k2,rfl⟩
 . simp[Instr.sliceBounds]
 . simp[Instr.sliceBounds,Instr.sliceBound,asIntOf,Sem.run_bind,hh,hcap]
 . simp[Instr.sliceBounds,Instr.sliceBound,asIntOf,Sem.run_bind,h0,h1]
 . simp[Instr.sliceBounds,Instr.sliceBound,asIntOf,Sem.run_bind,hh,hcap,h0,hlh]
   intro hc;omega
theorem zlc{t e:TypeId}{ty:Ty}{xs:List ty.T}{v:Value}{lo hi:Option Value}{l h:Int}(hu:P.underlying t=some (.slice e))(hs:P.cellsOf e=ty.sz)(hv:V F w β (.sl ty xs) v)(hlo:Bd lo 0 l)(hhi:Bd hi xs.length h)(hin:inS l h xs.length=true) :
 ∃ y,V F w β (.sl ty ((xs.take h.toNat).drop l.toNat)) y/\∀ w',(Instr.sliceAt t v lo hi none).run P w'=.ok y w':=by
 obtain ⟨h0,h1,h2⟩:=inS_iff.1 hin
 obtain ⟨i,hi',hsz⟩:=zcY hs (zbw ty)
 have hlen:((xs.take h.toNat).drop l.toNat).length=h.toNat-l.toNat:=by simp;omega
 have run : ∀ A c,xs.length<=c->∀ w',(Instr.sliceAt t (.slice A xs.length c) lo hi none).run P w'=.ok (.slice (if c=l.toNat then A else A.map (·.add (l.toNat*ty.sz))) (h.toNat-l.toNat) (c-l.toNat)) w':=by
  intro A c hc w'
  simp[Instr.sliceAt,Instr.slice,Sem.run_bind,run_underlying hu w',zia (P:=P) hlo hhi h0 h1 h2 hc w',zaP hi' w',hsz]
 cases hv with
 | sl0 _ A c=>
  have hl0:l.toNat=0:=by simp at h2;omega
  have hh0:h.toNat=0:=by simp at h2;omega
  refine⟨_,?_,run A c (Nat.zero_le _)⟩
  rw[hl0,hh0]
  exact .sl0 ty _ _
 | sl _ _ b o c Y hF hb hl hcap hc hd=>
  refine⟨_,?_,run _ c hcap⟩
  by_cases he:h.toNat=l.toNat
  . have:(xs.take h.toNat).drop l.toNat=[]:=List.eq_nil_of_length_eq_zero (by rw[hlen];omega)
    rw[this,show h.toNat-l.toNat=0 by omega]
    exact .sl0 ty _ _
  . rw[if_neg (by omega),← hlen]
    simp only[Option.map_some,add_lit]
    have hnth : ∀ i,i<h.toNat-l.toNat->nth ((xs.take h.toNat).drop l.toNat) i=nth xs (l.toNat+i):=fun i hi=>by
     simp[nth,List.getD,List.getElem?_drop,List.getElem?_take,show l.toNat+i<h.toNat by omega]
    refine .sl ty _ b (o+l.toNat*ty.sz) (c-l.toNat) (fun i j=>Y (l.toNat+i) j) hF hb (by rw[hlen];omega) (by rw[hlen];omega) (fun i j hi hj=>?_) (fun i j hi hj=>?_)
    . rw[hlen]at hi
      have:=hc (l.toNat+i) j (by omega) hj
      rw[← this]
      congr 2
      rw[Nat.add_mul];omega
    . rw[hlen]at hi
      rw[hnth i hi]
      exact hd _ _ (by omega) hj
theorem znU(h:Rel B F β st a w) : ∀ {l:List Operand} {vs:List Value},zyu (l.map st.ev)=some vs->l.map a.eval=vs
 | [],vs,hv=>by simp[zyu]at hv;subst hv;rfl
 | x :: l,vs,hv=>by
  simp only[List.map_cons,zyu]at hv
  split at hv
  . rename_i y ys hy hys
    simp at hv;subst hv
    rw[List.map_cons,zej (h.ev x) hy,znU h hys]
  . cases hv
end
section
variable {F:Nat->Prop} {w:World} {β:Gh}
def Fits(F:Nat->Prop)(w:World)(β:Gh)(cs ds:List AV):Prop:=∀ j y,j<cs.length->V F w β (cs.getD j .undef) y->V F w β (ds.getD j .undef) y
theorem Fits.nil{ds:List AV}:Fits F w β [] ds:=fun j y hj=>by simp at hj
theorem Fits.cons{c d:AV}{cs ds:List AV}(h1 : ∀ y,V F w β c y->V F w β d y)(h2:Fits F w β cs ds):Fits F w β (c :: cs) (d :: ds):=fun j y hj hd=>by
 cases j with
 | zero=>exact h1 y hd
 | succ j=>exact h2 j y (by simpa using hj) hd
def Vs(F:Nat->Prop)(w:World)(β:Gh)(cs:List AV)(Y:Nat->Value):Prop:=∀ j,j<cs.length->V F w β (cs.getD j .undef) (Y j)
theorem Vs.nil{Y:Nat->Value}:Vs F w β [] Y:=fun j hj=>by simp at hj
theorem Vs.cons{c:AV}{cs:List AV}{Y:Nat->Value}(h1:V F w β c (Y 0))(h2:Vs F w β cs fun j=>Y (j+1)):Vs F w β (c :: cs) Y:=fun j hj=>by
 cases j with
 | zero=>exact h1
 | succ j=>exact h2 j (by simpa using hj)
theorem zau{t:Ty}{c:AV}{xs:List t.T}(h:zaH t c=some xs){y:Value}(hd:V F w β c y):V F w β (.sl t xs) y:=by
 unfold zaH at h
 split at h
 . rename_i t' ys
   split at h
   . rename_i e _
     subst e
     simp at h;subst h
     exact hd
   . cases h
 . rename_i A n c'
   split at h
   . simp at h;subst h
     cases hd
     exact .sl0 t A c'
   . cases h
 . cases h
theorem zad{t:Ty}{c:AV}{x:Option t.T}(h:zcx t c=some x){y:Value}(hd:V F w β c y):V F w β (.op t x) y:=by
 unfold zcx at h
 split at h
 . rename_i t' ys
   split at h
   . rename_i e _
     subst e
     simp at h;subst h
     exact hd
   . cases h
 . rename_i t' xs i
   split at h
   . rename_i e _
     subst e
     simp at h;subst h
     obtain ⟨b,o,Y,hi,rfl,hF,hb,hc,hd⟩:=ztL hd
     exact .op _ _ b o Y hF hb hc hd
   . cases h
 . cases h;cases hd;exact .op0 t
 . cases h
theorem zec{k v k' v':Ty}{es:List (k'.T × v'.T)}{es':List (k.T × v.T)}(h:zgo k v k' v' es=some es') : ∃ (e:k'=k) (e':v'=v),es'=e ▸ e' ▸ es:=by
 unfold zgo at h
 split at h
 . rename_i e e' _ _
   cases h
   exact⟨e,e',rfl⟩
 . cases h
theorem zat{k v:Ty}{c:AV}{es:List (k.T × v.T)}(h:zBb k v c=some es){y:Value}(hd:V F w β c y):V F w β (.mp k v es) y:=by
 unfold zBb at h
 split at h
 . obtain ⟨e,e',rfl⟩:=zec h
   subst e;subst e'
   exact hd
 . cases h;cases hd;exact .mp0 k v
 . cases h
theorem zap{c:AV}{x:Unit}(h:zrp c=some x){y:Value}(hd:V F w β c y):V F w β .any y:=by
 refine .any y ?_
 unfold zrp at h
 split at h
 . exact(zda hd rfl).2
 . exact(zda hd rfl).2
 . exact(zda hd rfl).2
 . exact(zda hd rfl).2
 . cases h
theorem zMp{t:Ty}{cs:List AV}{x:t.T}(h:cs.length=t.sz/\Fits F w β cs (t.enc x)){y:Value}(hv:V F w β (.agg cs) y):V F w β (.agg (t.enc x)) y:=by
 obtain ⟨ys,rfl,hl,hc⟩:=ziy hv
 exact .agg _ _ (by rw[zaj,← h.1];exact hl) fun j hj=>h.2 j _ (by rw[zaj,← h.1]at hj;exact hj) (hc j (by rw[zaj,← h.1]at hj;exact hj))
theorem zzJ{cs:List AV}{x:Clo}(h:zt0 cs=some x){ys:Array Value}(hl:ys.size=cs.length)(hv:Vs F w β cs fun j=>ys.getD j undef):V F w β x.out (.func (.func 113) #[] ys):=by
 unfold zt0 at h
 split at h
 . split at h
   . cases h
     exact .fn _ _ _ _ _ rfl hl Vs.nil (Vs.cons (zad (by assumption) (hv 0 (by simp))) Vs.nil)
   . cases h
 . cases h
theorem zzK{cs:List AV}{x:Clo}(h:zt1 cs=some x){ys:Array Value}(hl:ys.size=cs.length)(hv:Vs F w β cs fun j=>ys.getD j undef):V F w β x.out (.func (.func 116) #[] ys):=by
 unfold zt1 at h
 split at h
 . split at h
   . cases h
     exact .fn _ _ _ _ _ rfl hl Vs.nil (Vs.cons (zad (by assumption) (hv 0 (by simp))) Vs.nil)
   . cases h
 . cases h
theorem zzL{cs:List AV}{x:Clo}(h:zt2 cs=some x){ys:Array Value}(hl:ys.size=cs.length)(hv:Vs F w β cs fun j=>ys.getD j undef):V F w β x.out (.func (.func 117) #[] ys):=by
 unfold zt2 at h
 split at h
 . split at h
   . cases h
     exact .fn _ _ _ _ _ rfl hl Vs.nil (Vs.cons (zad (by assumption) (hv 0 (by simp))) Vs.nil)
   . cases h
 . cases h
theorem zzM{cs:List AV}{x:Clo}(h:zt3 cs=some x){ys:Array Value}(hl:ys.size=cs.length)(hv:Vs F w β cs fun j=>ys.getD j undef):V F w β x.out (.func (.func 118) #[] ys):=by
 unfold zt3 at h
 split at h
 . split at h
   . cases h
     exact .fn _ _ _ _ _ rfl hl Vs.nil (Vs.cons (zad (by assumption) (hv 0 (by simp))) Vs.nil)
   . cases h
 . cases h
theorem zzN{cs:List AV}{x:Clo}(h:zt4 cs=some x){ys:Array Value}(hl:ys.size=cs.length)(hv:Vs F w β cs fun j=>ys.getD j undef):V F w β x.out (.func (.func 119) #[] ys):=by
 unfold zt4 at h
 split at h
 . split at h
   . cases h
     exact .fn _ _ _ _ _ rfl hl Vs.nil (Vs.cons (zad (by assumption) (hv 0 (by simp))) Vs.nil)
   . cases h
 . cases h
theorem zzO{cs:List AV}{x:Clo}(h:zt5 cs=some x){ys:Array Value}(hl:ys.size=cs.length)(hv:Vs F w β cs fun j=>ys.getD j undef):V F w β x.out (.func (.func 120) #[] ys):=by
 unfold zt5 at h
 split at h
 . split at h
   . cases h
     exact .fn _ _ _ _ _ rfl hl Vs.nil (Vs.cons (zad (by assumption) (hv 0 (by simp))) (Vs.cons (zad (by assumption) (hv 1 (by simp))) Vs.nil))
   . cases h
 . cases h
theorem zzP{cs:List AV}{x:Clo}(h:zt6 cs=some x){ys:Array Value}(hl:ys.size=cs.length)(hv:Vs F w β cs fun j=>ys.getD j undef):V F w β x.out (.func (.func 122) #[] ys):=by
 unfold zt6 at h
 split at h
 . split at h
   . cases h
     exact .fn _ _ _ _ _ rfl hl Vs.nil (Vs.cons (zad (by assumption) (hv 0 (by simp))) (Vs.cons (zad (by assumption) (hv 1 (by simp))) Vs.nil))
   . cases h
 . cases h
theorem zzQ{cs:List AV}{x:Clo}(h:zt7 cs=some x){ys:Array Value}(hl:ys.size=cs.length)(hv:Vs F w β cs fun j=>ys.getD j undef):V F w β x.out (.func (.func 124) #[] ys):=by
 unfold zt7 at h
 split at h
 . split at h
   . cases h
     exact .fn _ _ _ _ _ rfl hl Vs.nil (Vs.cons (zad (by assumption) (hv 0 (by simp))) (Vs.cons (zad (by assumption) (hv 1 (by simp))) Vs.nil))
   . cases h
 . cases h
theorem zzR{cs:List AV}{x:Clo}(h:zt8 cs=some x){ys:Array Value}(hl:ys.size=cs.length)(hv:Vs F w β cs fun j=>ys.getD j undef):V F w β x.out (.func (.func 126) #[] ys):=by
 unfold zt8 at h
 split at h
 . split at h
   . cases h
     exact .fn _ _ _ _ _ rfl hl Vs.nil (Vs.cons (zad (by assumption) (hv 0 (by simp))) Vs.nil)
   . cases h
 . cases h
theorem zaf{c:AV}{x:Clo}(h:zrN c=some x){y:Value}(hv:V F w β c y):V F w β (.clo x) y:=by
 unfold zrN at h
 split at h
 . cases h;exact hv
 . rename_i f cap
   cases hv with | fn _ _ _ ya yc hla hlc ha hc=>
   have e0:ya=#[]:=by apply Array.eq_empty_of_size_eq_zero;simpa using hla
   subst e0
   split at h
   . rename_i e;have e:=Nat.eq_of_beq_eq_true e;subst e;exact .clo _ _ (zzJ h hlc hc)
   split at h
   . rename_i e;have e:=Nat.eq_of_beq_eq_true e;subst e;exact .clo _ _ (zzK h hlc hc)
   split at h
   . rename_i e;have e:=Nat.eq_of_beq_eq_true e;subst e;exact .clo _ _ (zzL h hlc hc)
   split at h
   . rename_i e;have e:=Nat.eq_of_beq_eq_true e;subst e;exact .clo _ _ (zzM h hlc hc)
   split at h
   . rename_i e;have e:=Nat.eq_of_beq_eq_true e;subst e;exact .clo _ _ (zzN h hlc hc)
   split at h
   . rename_i e;have e:=Nat.eq_of_beq_eq_true e;subst e;exact .clo _ _ (zzO h hlc hc)
   split at h
   . rename_i e;have e:=Nat.eq_of_beq_eq_true e;subst e;exact .clo _ _ (zzP h hlc hc)
   split at h
   . rename_i e;have e:=Nat.eq_of_beq_eq_true e;subst e;exact .clo _ _ (zzQ h hlc hc)
   split at h
   . rename_i e;have e:=Nat.eq_of_beq_eq_true e;subst e;exact .clo _ _ (zzR h hlc hc)
   cases h
 . cases h;exact .clo _ _ hv
 . cases h
theorem zbm{t:Ty}{cs:List AV}{x:t.T}(h:t.dec cs=some x):cs.length=t.sz/\Fits F w β cs (t.enc x):=by
 cases t
 . simp only[Ty.dec]at h
   split at h
   . split at h
     . cases h
       rename_i e
       subst e
       exact⟨rfl,Fits.cons (fun y hd=>hd) Fits.nil⟩
     . cases h
   . cases h
 . simp only[Ty.dec]at h
   split at h
   . cases h
     exact⟨rfl,Fits.cons (fun y hd=>hd) Fits.nil⟩
   . cases h
 . simp only[Ty.dec]at h
   split at h
   . cases h
     exact⟨rfl,Fits.cons (fun y hd=>hd) Fits.nil⟩
   . cases h
 . simp only[Ty.dec]at h
   split at h
   . exact⟨rfl,Fits.cons (fun y hd=>zaf h hd) Fits.nil⟩
   . cases h
 . simp only[Ty.dec]at h
   split at h
   . exact⟨rfl,Fits.cons (fun y hd=>zau h hd) Fits.nil⟩
   . cases h
 . simp only[Ty.dec]at h
   split at h
   . exact⟨rfl,Fits.cons (fun y hd=>zad h hd) Fits.nil⟩
   . cases h
 . simp only[Ty.dec]at h
   split at h
   . exact⟨rfl,Fits.cons (fun y hd=>zat h hd) Fits.nil⟩
   . cases h
 . simp only[Ty.dec]at h
   split at h
   . exact⟨rfl,Fits.cons (fun y hd=>zap h hd) Fits.nil⟩
   . cases h
 . simp only[Ty.dec]at h
   split at h
   . cases h
     refine⟨rfl,?_⟩
     repeat (first | exact Fits.nil | refine Fits.cons (fun y hd=>by first | exact hd | exact zau (by assumption) hd | exact zad (by assumption) hd | exact zat (by assumption) hd | exact zap (by assumption) hd | exact zaf (by assumption) hd) ?_)
   . cases h
 . simp only[Ty.dec]at h
   split at h
   . cases h
     refine⟨rfl,?_⟩
     repeat (first | exact Fits.nil | refine Fits.cons (fun y hd=>by first | exact hd | exact zau (by assumption) hd | exact zad (by assumption) hd | exact zat (by assumption) hd | exact zap (by assumption) hd | exact zaf (by assumption) hd) ?_)
   . cases h
 . simp only[Ty.dec]at h
   split at h
   . cases h
     refine⟨rfl,?_⟩
     repeat (first | exact Fits.nil | refine Fits.cons (fun y hd=>by first | exact hd | exact zau (by assumption) hd | exact zad (by assumption) hd | exact zat (by assumption) hd | exact zap (by assumption) hd | exact zaf (by assumption) hd) ?_)
   . cases h
 . simp only[Ty.dec]at h
   split at h
   . split at h
     . cases h
       refine⟨rfl,?_⟩
       repeat (first | exact Fits.nil | refine Fits.cons (fun y hd=>by first | exact hd | exact zau (by assumption) hd | exact zad (by assumption) hd | exact zat (by assumption) hd | exact zap (by assumption) hd | exact zaf (by assumption) hd) ?_)
     . cases h
   . cases h
 . simp only[Ty.dec]at h
   split at h
   . cases h
     refine⟨rfl,?_⟩
     repeat (first | exact Fits.nil | refine Fits.cons (fun y hd=>by first | exact hd | exact zau (by assumption) hd | exact zad (by assumption) hd | exact zat (by assumption) hd | exact zap (by assumption) hd | exact zaf (by assumption) hd) ?_)
   . cases h
 . simp only[Ty.dec]at h
   split at h
   . split at h
     . cases h
       refine⟨rfl,?_⟩
       repeat (first | exact Fits.nil | refine Fits.cons (fun y hd=>by first | exact hd | exact zau (by assumption) hd | exact zad (by assumption) hd | exact zat (by assumption) hd | exact zap (by assumption) hd | exact zaf (by assumption) hd) ?_)
     . cases h
   . cases h
 . simp only[Ty.dec]at h
   split at h
   . split at h
     . cases h
       refine⟨rfl,?_⟩
       repeat (first | exact Fits.nil | refine Fits.cons (fun y hd=>by first | exact hd | exact zau (by assumption) hd | exact zad (by assumption) hd | exact zat (by assumption) hd | exact zap (by assumption) hd | exact zaf (by assumption) hd) ?_)
     . cases h
   . cases h
 . simp only[Ty.dec]at h
   split at h
   . split at h
     . cases h
       refine⟨rfl,?_⟩
       repeat (first | exact Fits.nil | refine Fits.cons (fun y hd=>by first | exact hd | exact zau (by assumption) hd | exact zad (by assumption) hd | exact zat (by assumption) hd | exact zap (by assumption) hd | exact zaf (by assumption) hd) ?_)
     . cases h
   . cases h
 . simp only[Ty.dec]at h
   split at h
   . split at h
     . cases h
       refine⟨rfl,?_⟩
       repeat (first | exact Fits.nil | refine Fits.cons (fun y hd=>by first | exact hd | exact zau (by assumption) hd | exact zad (by assumption) hd | exact zat (by assumption) hd | exact zap (by assumption) hd | exact zaf (by assumption) hd) ?_)
     . cases h
   . cases h
 . simp only[Ty.dec]at h
   split at h
   . split at h
     . cases h
       refine⟨rfl,?_⟩
       repeat (first | exact Fits.nil | refine Fits.cons (fun y hd=>by first | exact hd | exact zau (by assumption) hd | exact zad (by assumption) hd | exact zat (by assumption) hd | exact zap (by assumption) hd | exact zaf (by assumption) hd) ?_)
     . cases h
   . cases h
 . simp only[Ty.dec]at h
   split at h
   . split at h
     . cases h
       refine⟨rfl,?_⟩
       repeat (first | exact Fits.nil | refine Fits.cons (fun y hd=>by first | exact hd | exact zau (by assumption) hd | exact zad (by assumption) hd | exact zat (by assumption) hd | exact zap (by assumption) hd | exact zaf (by assumption) hd) ?_)
     . cases h
   . cases h
 . simp only[Ty.dec]at h
   split at h
   . cases h
     refine⟨rfl,?_⟩
     repeat (first | exact Fits.nil | refine Fits.cons (fun y hd=>by first | exact hd | exact zau (by assumption) hd | exact zad (by assumption) hd | exact zat (by assumption) hd | exact zap (by assumption) hd | exact zaf (by assumption) hd) ?_)
   . cases h
 . simp only[Ty.dec]at h
   split at h
   . split at h
     . cases h
       refine⟨rfl,?_⟩
       repeat (first | exact Fits.nil | refine Fits.cons (fun y hd=>by first | exact hd | exact zau (by assumption) hd | exact zad (by assumption) hd | exact zat (by assumption) hd | exact zap (by assumption) hd | exact zaf (by assumption) hd) ?_)
     . cases h
   . cases h
 . simp only[Ty.dec]at h
   split at h
   . split at h
     . cases h
       refine⟨rfl,?_⟩
       repeat (first | exact Fits.nil | refine Fits.cons (fun y hd=>by first | exact hd | exact zau (by assumption) hd | exact zad (by assumption) hd | exact zat (by assumption) hd | exact zap (by assumption) hd | exact zaf (by assumption) hd) ?_)
     . cases h
   . cases h
 . simp only[Ty.dec]at h
   split at h
   . split at h
     . cases h
       refine⟨rfl,?_⟩
       repeat (first | exact Fits.nil | refine Fits.cons (fun y hd=>by first | exact hd | exact zau (by assumption) hd | exact zad (by assumption) hd | exact zat (by assumption) hd | exact zap (by assumption) hd | exact zaf (by assumption) hd) ?_)
     . cases h
   . cases h
 . simp only[Ty.dec]at h
   split at h
   . cases h
     refine⟨rfl,?_⟩
     repeat (first | exact Fits.nil | refine Fits.cons (fun y hd=>by first | exact hd | exact zau (by assumption) hd | exact zad (by assumption) hd | exact zat (by assumption) hd | exact zap (by assumption) hd | exact zaf (by assumption) hd) ?_)
   . cases h
 . simp only[Ty.dec]at h
   split at h
   . split at h
     . cases h
       refine⟨rfl,?_⟩
       repeat (first | exact Fits.nil | refine Fits.cons (fun y hd=>by first | exact hd | exact zau (by assumption) hd | exact zad (by assumption) hd | exact zat (by assumption) hd | exact zap (by assumption) hd | exact zaf (by assumption) hd) ?_)
     . cases h
   . cases h
 . simp only[Ty.dec]at h
   split at h
   . split at h
     . cases h
       refine⟨rfl,?_⟩
       repeat (first | exact Fits.nil | refine Fits.cons (fun y hd=>by first | exact hd | exact zau (by assumption) hd | exact zad (by assumption) hd | exact zat (by assumption) hd | exact zap (by assumption) hd | exact zaf (by assumption) hd) ?_)
     . cases h
   . cases h
 . simp only[Ty.dec]at h
   split at h
   . split at h
     . cases h
       refine⟨rfl,?_⟩
       repeat (first | exact Fits.nil | refine Fits.cons (fun y hd=>by first | exact hd | exact zau (by assumption) hd | exact zad (by assumption) hd | exact zat (by assumption) hd | exact zap (by assumption) hd | exact zaf (by assumption) hd) ?_)
     . cases h
   . cases h
 . simp only[Ty.dec]at h
   split at h
   . split at h
     . cases h
       refine⟨rfl,?_⟩
       repeat (first | exact Fits.nil | refine Fits.cons (fun y hd=>by first | exact hd | exact zau (by assumption) hd | exact zad (by assumption) hd | exact zat (by assumption) hd | exact zap (by assumption) hd | exact zaf (by assumption) hd) ?_)
     . cases h
   . cases h
 . simp only[Ty.dec]at h
   split at h
   . split at h
     . cases h
       refine⟨rfl,?_⟩
       repeat (first | exact Fits.nil | refine Fits.cons (fun y hd=>by first | exact hd | exact zau (by assumption) hd | exact zad (by assumption) hd | exact zat (by assumption) hd | exact zap (by assumption) hd | exact zaf (by assumption) hd) ?_)
     . cases h
   . cases h
 . simp only[Ty.dec]at h
   split at h
   . split at h
     . cases h
       refine⟨rfl,?_⟩
       repeat (first | exact Fits.nil | refine Fits.cons (fun y hd=>by first | exact hd | exact zau (by assumption) hd | exact zad (by assumption) hd | exact zat (by assumption) hd | exact zap (by assumption) hd | exact zaf (by assumption) hd) ?_)
     . cases h
   . cases h
 . simp only[Ty.dec]at h
   split at h
   . split at h
     . cases h
       refine⟨rfl,?_⟩
       repeat (first | exact Fits.nil | refine Fits.cons (fun y hd=>by first | exact hd | exact zau (by assumption) hd | exact zad (by assumption) hd | exact zat (by assumption) hd | exact zap (by assumption) hd | exact zaf (by assumption) hd) ?_)
     . cases h
   . cases h
 . simp only[Ty.dec]at h
   split at h
   . split at h
     . cases h
       refine⟨rfl,?_⟩
       repeat (first | exact Fits.nil | refine Fits.cons (fun y hd=>by first | exact hd | exact zau (by assumption) hd | exact zad (by assumption) hd | exact zat (by assumption) hd | exact zap (by assumption) hd | exact zaf (by assumption) hd) ?_)
     . cases h
   . cases h
 . simp only[Ty.dec]at h
   split at h
   . split at h
     . cases h
       refine⟨rfl,?_⟩
       repeat (first | exact Fits.nil | refine Fits.cons (fun y hd=>by first | exact hd | exact zau (by assumption) hd | exact zad (by assumption) hd | exact zat (by assumption) hd | exact zap (by assumption) hd | exact zaf (by assumption) hd) ?_)
     . cases h
   . cases h
 . simp only[Ty.dec]at h
   split at h
   . split at h
     . cases h
       refine⟨rfl,?_⟩
       repeat (first | exact Fits.nil | refine Fits.cons (fun y hd=>by first | exact hd | exact zau (by assumption) hd | exact zad (by assumption) hd | exact zat (by assumption) hd | exact zap (by assumption) hd | exact zaf (by assumption) hd) ?_)
     . cases h
   . cases h
 . simp only[Ty.dec]at h
   split at h
   . split at h
     . cases h
       refine⟨rfl,?_⟩
       repeat (first | exact Fits.nil | refine Fits.cons (fun y hd=>by first | exact hd | exact zau (by assumption) hd | exact zad (by assumption) hd | exact zat (by assumption) hd | exact zap (by assumption) hd | exact zaf (by assumption) hd) ?_)
     . cases h
   . cases h
 . simp only[Ty.dec]at h
   split at h
   . split at h
     . cases h
       refine⟨rfl,?_⟩
       repeat (first | exact Fits.nil | refine Fits.cons (fun y hd=>by first | exact hd | exact zau (by assumption) hd | exact zad (by assumption) hd | exact zat (by assumption) hd | exact zap (by assumption) hd | exact zaf (by assumption) hd) ?_)
     . cases h
   . cases h
 . simp only[Ty.dec]at h
   split at h
   . split at h
     . cases h
       refine⟨rfl,?_⟩
       repeat (first | exact Fits.nil | refine Fits.cons (fun y hd=>by first | exact hd | exact zau (by assumption) hd | exact zad (by assumption) hd | exact zat (by assumption) hd | exact zap (by assumption) hd | exact zaf (by assumption) hd) ?_)
     . cases h
   . cases h
 . simp only[Ty.dec]at h
   split at h
   . cases h
     refine⟨rfl,?_⟩
     repeat (first | exact Fits.nil | refine Fits.cons (fun y hd=>by first | exact hd | exact zau (by assumption) hd | exact zad (by assumption) hd | exact zat (by assumption) hd | exact zap (by assumption) hd | exact zaf (by assumption) hd) ?_)
   . cases h
 . simp only[Ty.dec]at h
   split at h
   . cases h
     refine⟨rfl,?_⟩
     repeat (first | exact Fits.nil | refine Fits.cons (fun y hd=>by first | exact hd | exact zau (by assumption) hd | exact zad (by assumption) hd | exact zat (by assumption) hd | exact zap (by assumption) hd | exact zaf (by assumption) hd) ?_)
   . cases h
 . simp only[Ty.dec]at h
   split at h
   . split at h
     . cases h
       refine⟨rfl,?_⟩
       repeat (first | exact Fits.nil | refine Fits.cons (fun y hd=>by first | exact hd | exact zau (by assumption) hd | exact zad (by assumption) hd | exact zat (by assumption) hd | exact zap (by assumption) hd | exact zaf (by assumption) hd) ?_)
     . cases h
   . cases h
 . simp only[Ty.dec]at h
   split at h
   . cases h
     refine⟨rfl,?_⟩
     repeat (first | exact Fits.nil | refine Fits.cons (fun y hd=>by first | exact hd | exact zau (by assumption) hd | exact zad (by assumption) hd | exact zat (by assumption) hd | exact zap (by assumption) hd | exact zaf (by assumption) hd) ?_)
   . cases h
 . simp only[Ty.dec]at h
   split at h
   . cases h
     refine⟨rfl,?_⟩
     repeat (first | exact Fits.nil | refine Fits.cons (fun y hd=>by first | exact hd | exact zau (by assumption) hd | exact zad (by assumption) hd | exact zat (by assumption) hd | exact zap (by assumption) hd | exact zaf (by assumption) hd) ?_)
   . cases h
 . simp only[Ty.dec]at h
   split at h
   . split at h
     . cases h
       refine⟨rfl,?_⟩
       repeat (first | exact Fits.nil | refine Fits.cons (fun y hd=>by first | exact hd | exact zau (by assumption) hd | exact zad (by assumption) hd | exact zat (by assumption) hd | exact zap (by assumption) hd | exact zaf (by assumption) hd) ?_)
     . cases h
   . cases h
 . simp only[Ty.dec]at h
   split at h
   . cases h
     refine⟨rfl,?_⟩
     repeat (first | exact Fits.nil | refine Fits.cons (fun y hd=>by first | exact hd | exact zau (by assumption) hd | exact zad (by assumption) hd | exact zat (by assumption) hd | exact zap (by assumption) hd | exact zaf (by assumption) hd) ?_)
   . cases h
 . simp only[Ty.dec]at h
   split at h
   . cases h
     refine⟨rfl,?_⟩
     repeat (first | exact Fits.nil | refine Fits.cons (fun y hd=>by first | exact hd | exact zau (by assumption) hd | exact zad (by assumption) hd | exact zat (by assumption) hd | exact zap (by assumption) hd | exact zaf (by assumption) hd) ?_)
   . cases h
 . simp only[Ty.dec]at h
   split at h
   . cases h
     refine⟨rfl,?_⟩
     repeat (first | exact Fits.nil | refine Fits.cons (fun y hd=>by first | exact hd | exact zau (by assumption) hd | exact zad (by assumption) hd | exact zat (by assumption) hd | exact zap (by assumption) hd | exact zaf (by assumption) hd) ?_)
   . cases h
 . simp only[Ty.dec]at h
   split at h
   . cases h
     refine⟨rfl,?_⟩
     repeat (first | exact Fits.nil | refine Fits.cons (fun y hd=>by first | exact hd | exact zau (by assumption) hd | exact zad (by assumption) hd | exact zat (by assumption) hd | exact zap (by assumption) hd | exact zaf (by assumption) hd) ?_)
   . cases h
 . simp only[Ty.dec]at h
   split at h
   . split at h
     . cases h
       refine⟨rfl,?_⟩
       repeat (first | exact Fits.nil | refine Fits.cons (fun y hd=>by first | exact hd | exact zau (by assumption) hd | exact zad (by assumption) hd | exact zat (by assumption) hd | exact zap (by assumption) hd | exact zaf (by assumption) hd) ?_)
     . cases h
   . cases h
 . simp only[Ty.dec]at h
   split at h
   . split at h
     . cases h
       refine⟨rfl,?_⟩
       repeat (first | exact Fits.nil | refine Fits.cons (fun y hd=>by first | exact hd | exact zau (by assumption) hd | exact zad (by assumption) hd | exact zat (by assumption) hd | exact zap (by assumption) hd | exact zaf (by assumption) hd) ?_)
     . cases h
   . cases h
 . simp only[Ty.dec]at h
   split at h
   . split at h
     . cases h
       refine⟨rfl,?_⟩
       repeat (first | exact Fits.nil | refine Fits.cons (fun y hd=>by first | exact hd | exact zau (by assumption) hd | exact zad (by assumption) hd | exact zat (by assumption) hd | exact zap (by assumption) hd | exact zaf (by assumption) hd) ?_)
     . cases h
   . cases h
 . simp only[Ty.dec]at h
   split at h
   . cases h
     refine⟨rfl,?_⟩
     repeat (first | exact Fits.nil | refine Fits.cons (fun y hd=>by first | exact hd | exact zau (by assumption) hd | exact zad (by assumption) hd | exact zat (by assumption) hd | exact zap (by assumption) hd | exact zaf (by assumption) hd) ?_)
   . cases h
 . simp only[Ty.dec]at h
   split at h
   . cases h
     refine⟨rfl,?_⟩
     repeat (first | exact Fits.nil | refine Fits.cons (fun y hd=>by first | exact hd | exact zau (by assumption) hd | exact zad (by assumption) hd | exact zat (by assumption) hd | exact zap (by assumption) hd | exact zaf (by assumption) hd) ?_)
   . cases h
 . simp only[Ty.dec]at h
   split at h
   . split at h
     . cases h
       refine⟨rfl,?_⟩
       repeat (first | exact Fits.nil | refine Fits.cons (fun y hd=>by first | exact hd | exact zau (by assumption) hd | exact zad (by assumption) hd | exact zat (by assumption) hd | exact zap (by assumption) hd | exact zaf (by assumption) hd) ?_)
     . cases h
   . cases h
def zAN:AV->Bool
 | .v (.int _ _)=>true
 | .v (.bool _)=>true
 | .v (.string _)=>true
 | _=>false
def kp(c d:AV):Prop:=(∀ (t:Ty) (ys:List t.T),c=.sl t ys->d=.sl t ys)/\(zbc c=true->∃ t:Ty,d=.sl t [])/\(zAN c=true->d=c)
def Keep(cs ds:List AV):Prop:=∀ j,j<cs.length->kp (cs.getD j .undef) (ds.getD j .undef)
theorem Keep.nil:Keep [] []:=fun j hj=>by simp at hj
theorem Keep.cons{c d:AV}{cs ds:List AV}(h1:kp c d)(h2:Keep cs ds):Keep (c :: cs) (d :: ds):=fun j hj=>by
 cases j with
 | zero=>simpa using h1
 | succ j=>simpa using h2 j (by simpa using hj)
theorem zbr{c:AV}(h:(match c with | .v (.slice _ _ _)=>true | .sl _ _=>true | _=>false)=false):kp c c:=by
 refine⟨fun t ys e=>(by subst e;cases h),fun e=>?_,fun _=>rfl⟩
 unfold zbc at e
 split at e
 . cases h
 . cases e
theorem zaL{t:Ty}{c:AV}{xs:List t.T}(h:zaH t c=some xs):kp c (.sl t xs):=by
 unfold zaH at h
 split at h
 . split at h
   . rename_i e _
     subst e
     simp at h;subst h
     exact⟨fun t' ys e=>e,fun e=>(by cases e),fun e=>(by cases e)⟩
   . cases h
 . split at h
   . cases h
     exact⟨fun t' ys e=>(by cases e),fun _=>⟨_,rfl⟩,fun e=>(by cases e)⟩
   . cases h
 . cases h
theorem zaK{t:Ty}{c:AV}{x:Option t.T}(h:zcx t c=some x):kp c (.op t x):=by
 refine⟨fun t' ys e=>(by subst e;cases h),fun e=>?_,fun e=>by unfold zAN at e;split at e <;> first | (cases h;done) | (cases e;done)⟩
 unfold zbc at e
 split at e
 . cases h
 . cases e
theorem zar{c:AV}{x:Clo}(h:zrN c=some x):kp c (.clo x):=by
 refine⟨fun t' ys e=>(by subst e;cases h),fun e=>?_,fun e=>by unfold zAN at e;split at e <;> first | (cases h;done) | (cases e;done)⟩
 unfold zbc at e
 split at e
 . cases h
 . cases e
theorem zaM{c:AV}{x:Unit}(h:zrp c=some x):kp c .any:=by
 refine⟨fun t' ys e=>(by subst e;cases h),fun e=>?_,fun e=>by unfold zAN at e;split at e <;> first | (cases h;done) | (cases e;done)⟩
 unfold zbc at e
 split at e
 . cases h
 . cases e
theorem zaJ{k v:Ty}{c:AV}{x:List (k.T × v.T)}(h:zBb k v c=some x):kp c (.mp k v x):=by
 refine⟨fun t' ys e=>(by subst e;cases h),fun e=>?_,fun e=>by unfold zAN at e;split at e <;> first | (cases h;done) | (cases e;done)⟩
 unfold zbc at e
 split at e
 . cases h
 . cases e
theorem zen{t:Ty}{cs:List AV}{x:t.T}(h:t.dec cs=some x):Keep cs (t.enc x):=by
 cases t
 . simp only[Ty.dec]at h
   split at h
   . split at h
     . cases h
       rename_i e
       subst e
       exact Keep.cons (zbr rfl) Keep.nil
     . cases h
   . cases h
 . simp only[Ty.dec]at h
   split at h
   . cases h
     exact Keep.cons (zbr rfl) Keep.nil
   . cases h
 . simp only[Ty.dec]at h
   split at h
   . cases h
     exact Keep.cons (zbr rfl) Keep.nil
   . cases h
 . simp only[Ty.dec]at h
   split at h
   . exact Keep.cons (zar h) Keep.nil
   . cases h
 . simp only[Ty.dec]at h
   split at h
   . exact Keep.cons (zaL h) Keep.nil
   . cases h
 . simp only[Ty.dec]at h
   split at h
   . exact Keep.cons (zaK h) Keep.nil
   . cases h
 . simp only[Ty.dec]at h
   split at h
   . exact Keep.cons (zaJ h) Keep.nil
   . cases h
 . simp only[Ty.dec]at h
   split at h
   . exact Keep.cons (zaM h) Keep.nil
   . cases h
 . simp only[Ty.dec]at h
   split at h
   . cases h
     repeat (first | exact Keep.nil | refine Keep.cons (by first | exact zbr rfl | exact zaL (by assumption) | exact zaK (by assumption) | exact zaJ (by assumption) | exact zaM (by assumption) | exact zar (by assumption)) ?_)
   . cases h
 . simp only[Ty.dec]at h
   split at h
   . cases h
     repeat (first | exact Keep.nil | refine Keep.cons (by first | exact zbr rfl | exact zaL (by assumption) | exact zaK (by assumption) | exact zaJ (by assumption) | exact zaM (by assumption) | exact zar (by assumption)) ?_)
   . cases h
 . simp only[Ty.dec]at h
   split at h
   . cases h
     repeat (first | exact Keep.nil | refine Keep.cons (by first | exact zbr rfl | exact zaL (by assumption) | exact zaK (by assumption) | exact zaJ (by assumption) | exact zaM (by assumption) | exact zar (by assumption)) ?_)
   . cases h
 . simp only[Ty.dec]at h
   split at h
   . split at h
     . cases h
       repeat (first | exact Keep.nil | refine Keep.cons (by first | exact zbr rfl | exact zaL (by assumption) | exact zaK (by assumption) | exact zaJ (by assumption) | exact zaM (by assumption) | exact zar (by assumption)) ?_)
     . cases h
   . cases h
 . simp only[Ty.dec]at h
   split at h
   . cases h
     repeat (first | exact Keep.nil | refine Keep.cons (by first | exact zbr rfl | exact zaL (by assumption) | exact zaK (by assumption) | exact zaJ (by assumption) | exact zaM (by assumption) | exact zar (by assumption)) ?_)
   . cases h
 . simp only[Ty.dec]at h
   split at h
   . split at h
     . cases h
       repeat (first | exact Keep.nil | refine Keep.cons (by first | exact zbr rfl | exact zaL (by assumption) | exact zaK (by assumption) | exact zaJ (by assumption) | exact zaM (by assumption) | exact zar (by assumption)) ?_)
     . cases h
   . cases h
 . simp only[Ty.dec]at h
   split at h
   . split at h
     . cases h
       repeat (first | exact Keep.nil | refine Keep.cons (by first | exact zbr rfl | exact zaL (by assumption) | exact zaK (by assumption) | exact zaJ (by assumption) | exact zaM (by assumption) | exact zar (by assumption)) ?_)
     . cases h
   . cases h
 . simp only[Ty.dec]at h
   split at h
   . split at h
     . cases h
       repeat (first | exact Keep.nil | refine Keep.cons (by first | exact zbr rfl | exact zaL (by assumption) | exact zaK (by assumption) | exact zaJ (by assumption) | exact zaM (by assumption) | exact zar (by assumption)) ?_)
     . cases h
   . cases h
 . simp only[Ty.dec]at h
   split at h
   . split at h
     . cases h
       repeat (first | exact Keep.nil | refine Keep.cons (by first | exact zbr rfl | exact zaL (by assumption) | exact zaK (by assumption) | exact zaJ (by assumption) | exact zaM (by assumption) | exact zar (by assumption)) ?_)
     . cases h
   . cases h
 . simp only[Ty.dec]at h
   split at h
   . split at h
     . cases h
       repeat (first | exact Keep.nil | refine Keep.cons (by first | exact zbr rfl | exact zaL (by assumption) | exact zaK (by assumption) | exact zaJ (by assumption) | exact zaM (by assumption) | exact zar (by assumption)) ?_)
     . cases h
   . cases h
 . simp only[Ty.dec]at h
   split at h
   . split at h
     . cases h
       repeat (first | exact Keep.nil | refine Keep.cons (by first | exact zbr rfl | exact zaL (by assumption) | exact zaK (by assumption) | exact zaJ (by assumption) | exact zaM (by assumption) | exact zar (by assumption)) ?_)
     . cases h
   . cases h
 . simp only[Ty.dec]at h
   split at h
   . cases h
     repeat (first | exact Keep.nil | refine Keep.cons (by first | exact zbr rfl | exact zaL (by assumption) | exact zaK (by assumption) | exact zaJ (by assumption) | exact zaM (by assumption) | exact zar (by assumption)) ?_)
   . cases h
 . simp only[Ty.dec]at h
   split at h
   . split at h
     . cases h
       repeat (first | exact Keep.nil | refine Keep.cons (by first | exact zbr rfl | exact zaL (by assumption) | exact zaK (by assumption) | exact zaJ (by assumption) | exact zaM (by assumption) | exact zar (by assumption)) ?_)
     . cases h
   . cases h
 . simp only[Ty.dec]at h
   split at h
   . split at h
     . cases h
       repeat (first | exact Keep.nil | refine Keep.cons (by first | exact zbr rfl | exact zaL (by assumption) | exact zaK (by assumption) | exact zaJ (by assumption) | exact zaM (by assumption) | exact zar (by assumption)) ?_)
     . cases h
   . cases h
 . simp only[Ty.dec]at h
   split at h
   . split at h
     . cases h
       repeat (first | exact Keep.nil | refine Keep.cons (by first | exact zbr rfl | exact zaL (by assumption) | exact zaK (by assumption) | exact zaJ (by assumption) | exact zaM (by assumption) | exact zar (by assumption)) ?_)
     . cases h
   . cases h
 . simp only[Ty.dec]at h
   split at h
   . cases h
     repeat (first | exact Keep.nil | refine Keep.cons (by first | exact zbr rfl | exact zaL (by assumption) | exact zaK (by assumption) | exact zaJ (by assumption) | exact zaM (by assumption) | exact zar (by assumption)) ?_)
   . cases h
 . simp only[Ty.dec]at h
   split at h
   . split at h
     . cases h
       repeat (first | exact Keep.nil | refine Keep.cons (by first | exact zbr rfl | exact zaL (by assumption) | exact zaK (by assumption) | exact zaJ (by assumption) | exact zaM (by assumption) | exact zar (by assumption)) ?_)
     . cases h
   . cases h
 . simp only[Ty.dec]at h
   split at h
   . split at h
     . cases h
       repeat (first | exact Keep.nil | refine Keep.cons (by first | exact zbr rfl | exact zaL (by assumption) | exact zaK (by assumption) | exact zaJ (by assumption) | exact zaM (by assumption) | exact zar (by assumption)) ?_)
     . cases h
   . cases h
 . simp only[Ty.dec]at h
   split at h
   . split at h
     . cases h
       repeat (first | exact Keep.nil | refine Keep.cons (by first | exact zbr rfl | exact zaL (by assumption) | exact zaK (by assumption) | exact zaJ (by assumption) | exact zaM (by assumption) | exact zar (by assumption)) ?_)
     . cases h
   . cases h
 . simp only[Ty.dec]at h
   split at h
   . split at h
     . cases h
       repeat (first | exact Keep.nil | refine Keep.cons (by first | exact zbr rfl | exact zaL (by assumption) | exact zaK (by assumption) | exact zaJ (by assumption) | exact zaM (by assumption) | exact zar (by assumption)) ?_)
     . cases h
   . cases h
 . simp only[Ty.dec]at h
   split at h
   . split at h
     . cases h
       repeat (first | exact Keep.nil | refine Keep.cons (by first | exact zbr rfl | exact zaL (by assumption) | exact zaK (by assumption) | exact zaJ (by assumption) | exact zaM (by assumption) | exact zar (by assumption)) ?_)
     . cases h
   . cases h
 . simp only[Ty.dec]at h
   split at h
   . split at h
     . cases h
       repeat (first | exact Keep.nil | refine Keep.cons (by first | exact zbr rfl | exact zaL (by assumption) | exact zaK (by assumption) | exact zaJ (by assumption) | exact zaM (by assumption) | exact zar (by assumption)) ?_)
     . cases h
   . cases h
 . simp only[Ty.dec]at h
   split at h
   . split at h
     . cases h
       repeat (first | exact Keep.nil | refine Keep.cons (by first | exact zbr rfl | exact zaL (by assumption) | exact zaK (by assumption) | exact zaJ (by assumption) | exact zaM (by assumption) | exact zar (by assumption)) ?_)
     . cases h
   . cases h
 . simp only[Ty.dec]at h
   split at h
   . split at h
     . cases h
       repeat (first | exact Keep.nil | refine Keep.cons (by first | exact zbr rfl | exact zaL (by assumption) | exact zaK (by assumption) | exact zaJ (by assumption) | exact zaM (by assumption) | exact zar (by assumption)) ?_)
     . cases h
   . cases h
 . simp only[Ty.dec]at h
   split at h
   . split at h
     . cases h
       repeat (first | exact Keep.nil | refine Keep.cons (by first | exact zbr rfl | exact zaL (by assumption) | exact zaK (by assumption) | exact zaJ (by assumption) | exact zaM (by assumption) | exact zar (by assumption)) ?_)
     . cases h
   . cases h
 . simp only[Ty.dec]at h
   split at h
   . split at h
     . cases h
       repeat (first | exact Keep.nil | refine Keep.cons (by first | exact zbr rfl | exact zaL (by assumption) | exact zaK (by assumption) | exact zaJ (by assumption) | exact zaM (by assumption) | exact zar (by assumption)) ?_)
     . cases h
   . cases h
 . simp only[Ty.dec]at h
   split at h
   . split at h
     . cases h
       repeat (first | exact Keep.nil | refine Keep.cons (by first | exact zbr rfl | exact zaL (by assumption) | exact zaK (by assumption) | exact zaJ (by assumption) | exact zaM (by assumption) | exact zar (by assumption)) ?_)
     . cases h
   . cases h
 . simp only[Ty.dec]at h
   split at h
   . split at h
     . cases h
       repeat (first | exact Keep.nil | refine Keep.cons (by first | exact zbr rfl | exact zaL (by assumption) | exact zaK (by assumption) | exact zaJ (by assumption) | exact zaM (by assumption) | exact zar (by assumption)) ?_)
     . cases h
   . cases h
 . simp only[Ty.dec]at h
   split at h
   . split at h
     . cases h
       repeat (first | exact Keep.nil | refine Keep.cons (by first | exact zbr rfl | exact zaL (by assumption) | exact zaK (by assumption) | exact zaJ (by assumption) | exact zaM (by assumption) | exact zar (by assumption)) ?_)
     . cases h
   . cases h
 . simp only[Ty.dec]at h
   split at h
   . cases h
     repeat (first | exact Keep.nil | refine Keep.cons (by first | exact zbr rfl | exact zaL (by assumption) | exact zaK (by assumption) | exact zaJ (by assumption) | exact zaM (by assumption) | exact zar (by assumption)) ?_)
   . cases h
 . simp only[Ty.dec]at h
   split at h
   . cases h
     repeat (first | exact Keep.nil | refine Keep.cons (by first | exact zbr rfl | exact zaL (by assumption) | exact zaK (by assumption) | exact zaJ (by assumption) | exact zaM (by assumption) | exact zar (by assumption)) ?_)
   . cases h
 . simp only[Ty.dec]at h
   split at h
   . split at h
     . cases h
       repeat (first | exact Keep.nil | refine Keep.cons (by first | exact zbr rfl | exact zaL (by assumption) | exact zaK (by assumption) | exact zaJ (by assumption) | exact zaM (by assumption) | exact zar (by assumption)) ?_)
     . cases h
   . cases h
 . simp only[Ty.dec]at h
   split at h
   . cases h
     repeat (first | exact Keep.nil | refine Keep.cons (by first | exact zbr rfl | exact zaL (by assumption) | exact zaK (by assumption) | exact zaJ (by assumption) | exact zaM (by assumption) | exact zar (by assumption)) ?_)
   . cases h
 . simp only[Ty.dec]at h
   split at h
   . cases h
     repeat (first | exact Keep.nil | refine Keep.cons (by first | exact zbr rfl | exact zaL (by assumption) | exact zaK (by assumption) | exact zaJ (by assumption) | exact zaM (by assumption) | exact zar (by assumption)) ?_)
   . cases h
 . simp only[Ty.dec]at h
   split at h
   . split at h
     . cases h
       repeat (first | exact Keep.nil | refine Keep.cons (by first | exact zbr rfl | exact zaL (by assumption) | exact zaK (by assumption) | exact zaJ (by assumption) | exact zaM (by assumption) | exact zar (by assumption)) ?_)
     . cases h
   . cases h
 . simp only[Ty.dec]at h
   split at h
   . cases h
     repeat (first | exact Keep.nil | refine Keep.cons (by first | exact zbr rfl | exact zaL (by assumption) | exact zaK (by assumption) | exact zaJ (by assumption) | exact zaM (by assumption) | exact zar (by assumption)) ?_)
   . cases h
 . simp only[Ty.dec]at h
   split at h
   . cases h
     repeat (first | exact Keep.nil | refine Keep.cons (by first | exact zbr rfl | exact zaL (by assumption) | exact zaK (by assumption) | exact zaJ (by assumption) | exact zaM (by assumption) | exact zar (by assumption)) ?_)
   . cases h
 . simp only[Ty.dec]at h
   split at h
   . cases h
     repeat (first | exact Keep.nil | refine Keep.cons (by first | exact zbr rfl | exact zaL (by assumption) | exact zaK (by assumption) | exact zaJ (by assumption) | exact zaM (by assumption) | exact zar (by assumption)) ?_)
   . cases h
 . simp only[Ty.dec]at h
   split at h
   . cases h
     repeat (first | exact Keep.nil | refine Keep.cons (by first | exact zbr rfl | exact zaL (by assumption) | exact zaK (by assumption) | exact zaJ (by assumption) | exact zaM (by assumption) | exact zar (by assumption)) ?_)
   . cases h
 . simp only[Ty.dec]at h
   split at h
   . split at h
     . cases h
       repeat (first | exact Keep.nil | refine Keep.cons (by first | exact zbr rfl | exact zaL (by assumption) | exact zaK (by assumption) | exact zaJ (by assumption) | exact zaM (by assumption) | exact zar (by assumption)) ?_)
     . cases h
   . cases h
 . simp only[Ty.dec]at h
   split at h
   . split at h
     . cases h
       repeat (first | exact Keep.nil | refine Keep.cons (by first | exact zbr rfl | exact zaL (by assumption) | exact zaK (by assumption) | exact zaJ (by assumption) | exact zaM (by assumption) | exact zar (by assumption)) ?_)
     . cases h
   . cases h
 . simp only[Ty.dec]at h
   split at h
   . split at h
     . cases h
       repeat (first | exact Keep.nil | refine Keep.cons (by first | exact zbr rfl | exact zaL (by assumption) | exact zaK (by assumption) | exact zaJ (by assumption) | exact zaM (by assumption) | exact zar (by assumption)) ?_)
     . cases h
   . cases h
 . simp only[Ty.dec]at h
   split at h
   . cases h
     repeat (first | exact Keep.nil | refine Keep.cons (by first | exact zbr rfl | exact zaL (by assumption) | exact zaK (by assumption) | exact zaJ (by assumption) | exact zaM (by assumption) | exact zar (by assumption)) ?_)
   . cases h
 . simp only[Ty.dec]at h
   split at h
   . cases h
     repeat (first | exact Keep.nil | refine Keep.cons (by first | exact zbr rfl | exact zaL (by assumption) | exact zaK (by assumption) | exact zaJ (by assumption) | exact zaM (by assumption) | exact zar (by assumption)) ?_)
   . cases h
 . simp only[Ty.dec]at h
   split at h
   . split at h
     . cases h
       repeat (first | exact Keep.nil | refine Keep.cons (by first | exact zbr rfl | exact zaL (by assumption) | exact zaK (by assumption) | exact zaJ (by assumption) | exact zaM (by assumption) | exact zar (by assumption)) ?_)
     . cases h
   . cases h
theorem zxE(t:Ty)(x:t.T):zl6 (t.enc x)=true:=by cases t <;> rfl
theorem zPG(t:Ty):t.sz<=4096:=by induction t <;> simp[Ty.sz]
theorem zvp{t:Ty}{x:t.T}{j:Nat}{y:Value}(hj:j<t.sz)(h:V F w β ((t.enc x).getD j .undef) y):y.oneCell'=true:=
 (zda h (zhR (zxE t x) j (by rw[zaj];exact hj))).2
theorem zdA{t:Ty} : ∀ {n:Nat} {cs:List AV} {xs:List t.T},zdd t n cs=some xs->xs.length=n/\cs.length=n*t.sz/\∀ i j,i<n->j<t.sz->∀ y,V F w β (cs.getD (i*t.sz+j) .undef) y->V F w β ((t.enc (nth xs i)).getD j .undef) y
 | 0,cs,xs,h=>by
  cases cs with
  | nil=>simp[zdd]at h;subst h;exact⟨rfl,by simp,fun i j hi=>by omega⟩
  | cons=>simp[zdd]at h
 | n + 1,cs,xs,h=>by
  simp only[zdd]at h
  split at h
  . rename_i x xs' hx hxs
    simp at h;subst h
    obtain ⟨h1,h2,h3⟩:=zdA hxs
    obtain ⟨k1,k2⟩:=zbm (F:=F) (w:=w) (β:=β) hx
    have hsz:=zbw t
    have hlen:cs.length=(n+1)*t.sz:=by
     simp at k1 h2
     rw[Nat.add_mul,Nat.one_mul];omega
    refine⟨by simp[h1],hlen,fun i j hi hj y hd=>?_⟩
    cases i with
    | zero=>
     have:=k2 j y (by omega) (by
      have e:(cs.take t.sz).getD j .undef=cs.getD j .undef:=by simp[List.getD,List.getElem?_take,hj]
      rw[e];simpa using hd)
     simpa [nth]using this
    | succ i=>
     have:=h3 i j (by omega) hj y (by
      have e:(cs.drop t.sz).getD (i*t.sz+j) .undef=cs.getD ((i+1)*t.sz+j) .undef:=by
       simp only[List.getD,List.getElem?_drop]
       congr 2
       rw[Nat.add_mul];omega
      rw[e];exact hd)
     simpa [nth]using this
  . cases h
end
section
variable {P:Program} {B:Bs} {F:Nat->Prop} {β:Gh} {st:St} {a:Act} {w:World}
theorem zBy{F':Nat->Prop}{e:TypeId}{ty:Ty}{xs:List ty.T}{v:Value}{Vs:List Value}(h1:w.ownsRow 0 e ty.sz v xs.length Vs)(hl:xs.length<=140737488355328)(ho : ∀ k,v.ownBlock=some k->F' k)
 (h3 : ∀ i j,i<xs.length->j<ty.sz->D F' w ((ty.enc (nth xs i)).getD j .undef) (Vs.getD (i*ty.sz+j) undef)):D F' w (.sl ty xs) v:=by
 rcases h1.2 with ⟨hv,hn⟩ | ⟨g,cap,cur,hv,hg,hh,hnc,hcm,hcs,htk⟩
 . have:xs=[]:=List.eq_nil_of_length_eq_zero hn
   subst this
   rw[hv];exact .sl0 ty none 0
 . obtain ⟨_,hcell⟩:=zcf h1 hv
   have hg':F' g:=ho g (by rw[hv];rfl)
   rw[hv]
   refine .sl ty xs g 0 cap (fun i j=>Vs.getD (i*ty.sz+j) undef) hg' (Array.getElem?_eq_some_iff.1 hh).1 hl hnc (fun i j hi hj=>?_) (fun i j hi hj=>h3 i j hi hj)
   rw[Nat.zero_add]
   exact hcell _ (zb0 hi hj)
theorem CellOk.whole{F':Nat->Prop}{b i j:Nat}{cols:List (Nat × TypeId)}{x:AV}{v:Value}(h:CellOk F w β b cols [] i j x v)(hF : ∀ k,F k->F' k)(ho : ∀ k s,β.o k=some (b,s)->F' k):D F' w x v:=by
 unfold CellOk at h
 split at h
 . exact h.wide hF
 . rcases h.2 with h | ⟨t,ys,Vs,rfl,h2,h3,h4,h5⟩
   . exact(zoT h).elim
   . exact zBy h2 h3 (fun k hk=>ho k _ (h4 k hk)) fun k m hk hm=>(h5 k m hk hm).wide hF
theorem zzr{F':Nat->Prop}{e:TypeId}{ty:Ty}{cols:List (Nat × TypeId)}{xs:List ty.T}{b:Nat}(h:BlkOk F w β b (.row e ty cols [] xs))(hF : ∀ k,F k->F' k)(ho : ∀ k s,β.o k=some (b,s)->F' k):D F' w (.sl ty xs) (β.v b):=by
 obtain ⟨Vs,h1,hl,h2,h3⟩:=h
 exact zBy h1 hl (fun k hk=>ho k _ (h2 k hk)) fun i j hi hj=>(h3 i j hi hj).whole hF ho
theorem zx2{e:TypeId}{ty:Ty}{cols:List (Nat × TypeId)}{hole:zbI}{xs:List ty.T}{b:Nat}(h:BlkOk F w β b (.row e ty cols hole xs)) : ∃ A c,β.v b=.slice A xs.length c:=by
 obtain ⟨Vs,h1,_⟩:=h
 rcases h1.2 with ⟨hv,hn⟩ | ⟨g,cap,cur,hv,_⟩
 . exact⟨_,_,hv.trans (by rw[hn])⟩
 . exact⟨_,_,hv⟩
theorem zoH{t:TypeId}{cs:List AV}{ys:Array Value}{o:Nat}{r:AV}(h:rd P t cs 0=some r)(hl:o+cs.length<=ys.size)(hV : ∀ j,j<cs.length->V F w β (cs.getD j .undef) (ys.getD (o+j) undef)) :
 ∃ y,V F w β r y/\(part t ys o).run P w=.ok y w:=by
 have hs:(ys.extract o (o+cs.length)).size=cs.length:=by simp;omega
 have hg : ∀ j,j<cs.length->(ys.extract o (o+cs.length)).getD j undef=ys.getD (o+j) undef:=fun j hj=>by
  simp[Array.getD,show j<min (o+cs.length) ys.size-o by omega,show o+j<ys.size by omega]
 unfold rd at h
 split at h
 . rename_i ha
   obtain ⟨hlt,rfl⟩:=List.getElem?_eq_some_iff.1 h
   refine⟨ys.getD o undef,by simpa [List.getD,hlt]using hV 0 hlt,?_⟩
   have:o<ys.size:=by omega
   simp[part,Sem.run_bind,zdW ha w,this,Array.getD]
 . rename_i n ha
   split at h
   . rename_i hle
     have hle':0+n<=cs.length:=Nat.le_of_ble_eq_true hle
     simp at h;subst h
     obtain ⟨hagg,i,hi,hn⟩:=zdX ha
     refine⟨.agg (ys.extract o (o+n)),.agg _ _ (by simp;omega) fun j hj=>?_,?_⟩
     . have hj':j<n:=by simp at hj;omega
       have:=hV j (by omega)
       simpa [List.getD,Array.getD,hj',show o+j<ys.size by omega,List.getElem?_take,show j<min (o+n) ys.size-o by omega]using this
     . simp[part,Sem.run_bind,hagg w,zaP hi w,hn]
   . cases h
 . cases h
def zrz(F:Nat->Prop)(w:World)(k v:Ty)(es:List (k.T × v.T))(fl:Bool)(y:Value):Prop:=
 (y=.map none/\es=[]) ∨ ∃ (r:Nat) (Es:Array MapEntry) (clock:Nat),y=.map (some r)/\w.heap[r]?=some (.map Es clock)/\Es.size=es.length/\
  (∀ i,i<es.length->D F w (zbU k (es.getD i default).1) (Es.getD i default).key)/\∀ i,i<es.length->fl=true->D F w (zbU v (es.getD i default).2) (Es.getD i default).val
theorem zC7{k v:Ty}{es:List (k.T × v.T)}{y:Value}(h:V F w β (.mp k v es) y):zrz F w k v es true y:=by
 cases h with
 | mp0=>exact .inl ⟨rfl,rfl⟩
 | mp _ _ _ b Es clock hF hb hc hl hk hv=>exact .inr ⟨b,Es,clock,rfl,hc,hl,fun i hi=>(hk i hi).toD (zd7 _ _),fun i hi _=>(hv i hi).toD (zd7 _ _)⟩
theorem ztM{b:Nat}{y:Value}(h:V F w β (.om b) y):β.l b/\y=.map (some (β.b b)):=by cases h;exact⟨by assumption,rfl⟩
theorem zA0{b:Nat}{k v:Ty}{cols:List (Nat × TypeId)}{es:List (k.T × v.T)}(h:BlkOk F w β b (.map k v cols es)):zrz F w k v es cols.isEmpty (.map (some (β.b b))):=by
 obtain ⟨Es,clock,h1,h2,h3,h4,h5⟩:=h
 refine .inr ⟨_,Es,clock,rfl,h1,h2,h4,fun i hi hf=>?_⟩
 have:cols=[]:=by simpa using hf
 subst this
 exact(h5 i hi).toD rfl
theorem zsi(h:HOk F w β st.heap){k v:Ty}{x:AV}{y:Value}{es:List (k.T × v.T)}{fl:Bool}(hv:V F w β x y)(hx:st.mapOf k v x=some (es,fl)):zrz F w k v es fl y:=by
 unfold St.mapOf at hx
 split at hx
 . obtain ⟨l,hl,he⟩:=Option.map_eq_some_iff.1 hx
   cases he
   obtain ⟨e,e',rfl⟩:=zec hl
   subst e;subst e'
   exact zC7 hv
 . obtain ⟨_,rfl⟩:=ztM hv
   split at hx
   . rename_i hb
     obtain ⟨l,hl,he⟩:=Option.map_eq_some_iff.1 hx
     cases he
     obtain ⟨e,e',rfl⟩:=zec hl
     subst e;subst e'
     exact zA0 (h.blk _ _ hb)
   . rename_i hb
     obtain ⟨l,hl,he⟩:=Option.map_eq_some_iff.1 hx
     cases he
     obtain ⟨e,e',rfl⟩:=zec hl
     subst e;subst e'
     exact zC7 (show D F w (.mp _ _ _) (.map (some (β.b _)))from h.blk _ _ hb)
   . cases hx
 . cases hx
   rw[V_v hv];exact .inl ⟨rfl,rfl⟩
 . cases hx
theorem zh4{k v:Ty}{es:List (k.T × v.T)}{fl:Bool}{y:Value}(h:zrz F w k v es fl y){t kt vt:TypeId}(hu:P.underlying t=some (.map kt vt))(ty:TypeId):(Builtin.len_ #[t] ty #[y]).run P w=.ok (.int .i64 es.length) w:=by
 rcases h with ⟨rfl,rfl⟩ | ⟨r,Es,clock,rfl,h1,h2,_⟩
 . simp[Builtin.len_,Sem.run_bind,run_underlying hu w,goInt]
 . simp[Builtin.len_,Sem.run_bind,run_underlying hu w,goInt,getObj,Sem.run,h1,h2]
theorem zBJ{t:Ty}{x:AV}{z:t.T}(hz:rdA t x=some z){y:Value}(h:V F w β x y):V F w β (zbU t z) y:=by
 unfold rdA at hz
 unfold zbU
 cases hs:t.isS with
 | true=>
  rw[hs]at hz
  dsimp only at hz ⊢
  split at hz
  . exact zMp (zbm hz) h
  . cases hz
 | false=>
  rw[hs]at hz
  dsimp only at hz ⊢
  split at hz
  . cases hz
  . cases hz
  . have:=(zbm (F:=F) (w:=w) (β:=β) hz).2 0 y (by simp) (by simpa using h)
    exact this
theorem zyw{t:TypeId}{k:Ty}{z:k.T}(h:zwE P t k=some z) : ∃ y,D F w (zbU k z) y/\(zeroValue t).run P w=.ok y w:=by
 unfold zwE at h
 split at h
 . rename_i i hi
   split at h
   . rename_i y hy
     exact⟨y,zBJ h (zg0 y),by simp[zeroValue,typeInfo,Sem.run_bind,hi,hy,Result.andThen]⟩
   . cases h
 . cases h
theorem zlb{kt:TypeId}{d:TypeDesc}(hd:P.underlying kt=some d){n:Nat}{x y:Value}{b b':Bool}(h:Instr.sameNow d x y=some b)(h':eqV P (n+1) kt x y=some b'):b=b':=by
 unfold eqV at h'
 rw[hd]at h'
 unfold Instr.sameNow at h
 split at h
 . dsimp only at h'
   split at h
   . split at h'
     . cases h;cases h';rfl
     . cases h'
   . cases h
 . cases h;cases h';exact beq_toListBytes _ _
 . cases h;cases h';rfl
 . cases h
theorem zrY {kt:TypeId} {d:TypeDesc} (hd:P.underlying kt=some d) {k v:Ty} {kv:Value} : ∀ (es:List (k.T × v.T)) (l:List MapEntry) (i:Nat) (q:Option Nat),l.length=es.length->(∀ j,j<es.length->D F w (zbU k (es.getD j default).1) (l.getD j default).key)->
 mix (zdE P kt k kv) es=some q->(Instr.findAsking kt kv l i).run P w=.ok (q.map fun j=>(i+j,(l.getD j default).val)) w/\(∀ r,Instr.findNow d kv l i=some r->r=q.map fun j=>(i+j,(l.getD j default).val))/\∀ j,q=some j->j<es.length/\eqV P 10000 kt kv (l.getD j default).key=some true
 | [],l,i,q,hl,_,hm=>by
  have:l=[]:=List.eq_nil_of_length_eq_zero hl
  subst this
  cases hm
  exact⟨by simp[Instr.findAsking],fun r hr=>by cases hr;rfl,fun j hj=>by cases hj⟩
 | (x,y) :: es,[],i,q,hl,_,hm=>by cases hl
 | (x, y) :: es,e :: l,i,q,hl,hk,hm=>by
  have h0:=hk 0 (by simp)
  simp only[mix]at hm
  have key : ∀ b,zdE P kt k kv x=some b->eqV P 10000 kt kv e.key=some b:=fun b hb=>by
   unfold zdE at hb
   split at hb
   . rename_i vx hvx
     have e0:e.key=vx:=zej (show V F w Gh.nil (zbU k x) e.key from h0) hvx
     rw[e0];exact hb
   . cases hb
  split at hm
  . rename_i hb
    cases hm
    have hq:=key _ hb
    have he:(Op.equal kt kv e.key).run P w=.ok true w:=zff _ _ _ _ _ hq w
    refine⟨by simp[Instr.findAsking,Sem.run_bind,he],fun r hr=>?_,fun j hj=>?_⟩
    . simp only[Instr.findNow]at hr
      split at hr
      . cases hr;rfl
      . rename_i hs;cases zlb hd hs hq
      . cases hr
    . cases hj;exact⟨by simp,hq⟩
  . rename_i hb
    have hq:=key _ hb
    have he:(Op.equal kt kv e.key).run P w=.ok false w:=zff _ _ _ _ _ hq w
    cases hm':mix (zdE P kt k kv) es with
    | none=>rw[hm']at hm;cases hm
    | some q'=>
     rw[hm']at hm
     cases hm
     obtain ⟨h1,h2,h3⟩:=zrY hd es l (i+1) q' (by simpa using hl) (fun j hj=>by simpa using hk (j+1) (by simpa using hj)) hm'
     have sh : ∀ f:Nat->Nat × Value,(q'.map fun j=>(i+1+j,(l.getD j default).val))=(q'.map (· + 1)).map fun j=>(i+j,((e :: l).getD j default).val):=fun _=>by
      cases q' with
      | none=>rfl
      | some j=>simp[Nat.add_comm,Nat.add_left_comm]
     refine⟨?_,fun r hr=>?_,fun j hj=>?_⟩
     . rw[← sh (fun j=>(j,.nilIface))]
       simp only[Instr.findAsking,Sem.run_bind,he,Result.andThen]
       exact h1
     . simp only[Instr.findNow]at hr
       split at hr
       . rename_i hs;cases zlb hd hs hq
       . rw[h2 r hr];exact sh (fun j=>(j,.nilIface))
       . cases hr
     . cases q' with
       | none=>cases hj
       | some j'=>
        cases hj
        obtain ⟨q1,q2⟩:=h3 j' rfl
        exact⟨by simpa using q1,by simpa using q2⟩
  . cases hm
theorem zdr{kt:TypeId}{k v:Ty}{kv:Value}{es:List (k.T × v.T)}{Es:Array MapEntry}{d:TypeDesc}(hd:P.underlying kt=some d){q:Option Nat}(hl:Es.size=es.length)(hk : ∀ j,j<es.length->D F w (zbU k (es.getD j default).1) (Es.getD j default).key)
 (hm:mix (zdE P kt k kv) es=some q):(Instr.findKey kt kv Es.toList).run P w=.ok (q.map fun j=>(j,(Es.getD j default).val)) w/\∀ j,q=some j->j<es.length/\eqV P 10000 kt kv (Es.getD j default).key=some true:=by
 have e0 : ∀ j,Es.toList.getD j default=Es.getD j default:=fun j=>by rw[List.getD_eq_getElem?_getD,Array.getElem?_toList,Array.getD_eq_getD_getElem?]
 obtain ⟨h1,h2,h3⟩:=zrY (F:=F) (w:=w) hd es Es.toList 0 q (by simpa using hl) (fun j hj=>by rw[e0];exact hk j hj) hm
 simp only[Nat.zero_add,e0]at h1 h2 h3
 refine⟨?_,h3⟩
 simp only[Instr.findKey,Sem.run_bind,run_underlying hd w,Result.andThen]
 cases hf:Instr.findNow d kv Es.toList 0 with
 | none=>simpa using h1
 | some r=>simp[h2 r hf]
theorem zj4{kt:TypeId}{x:AV}{kv y:Value}(h:zr9 P kt x=some kv)(hv:V F w β x y):y=kv/\∀ e,(Instr.checkKey e 10000 kt kv).run P w=.ok () w:=by
 unfold zr9 at h
 split at h
 . rename_i v hx
   split at h
   . rename_i h1 h2
     cases h
     exact⟨zej hv hx,fun e=>by cases e;exact zdz h2 w;exact zdz h1 w⟩
   . cases h
 . cases h
theorem zfB{kt:TypeId}{kv:Value}(h : ∀ e,(Instr.checkKey e 10000 kt kv).run P w=.ok () w) : ∃ d,P.underlying kt=some d:=by
 cases hd:P.underlying kt with
 | some d=>exact⟨d,rfl⟩
 | none=>
  have h1:=h true
  unfold Instr.checkKey at h1
  simp[underlying,hd,Sem.run_bind,Result.andThen]at h1
theorem zur{t kt vt:TypeId}{kk kvt:Ty}{kv y:Value}{es:List (kk.T × kvt.T)}{fl:Bool}{z0:kvt.T}{r:Option kvt.T}(hu:P.underlying t=some (.map kt vt))(hM:zrz F w kk kvt es fl y)(hz:zwE P vt kvt=some z0)
 (hc : ∀ e,(Instr.checkKey e 10000 kt kv).run P w=.ok () w) (hr:zes (zdE P kt kk kv) es=some r) :
 ∃ u,(fl=true->D F w (zbU kvt (r.getD z0)) u)/\∀ ok,(Instr.lookup t y kv ok).run P w=.ok (if ok then .tuple #[u,.bool r.isSome]else u) w:=by
 obtain ⟨d,hd⟩:=zfB hc
 obtain ⟨zv,hzv,hzr⟩:=zyw (F:=F) (w:=w) hz
 unfold zes at hr
 cases hm:mix (zdE P kt kk kv) es with
 | none=>rw[hm]at hr;cases hr
 | some q=>
  rw[hm]at hr
  rcases hM with ⟨rfl,rfl⟩ | ⟨a,Es,clock,rfl,h1,h2,h3,h4⟩
  . cases hm
    cases hr
    have hf:=(zdr (F:=F) (w:=w) (P:=P) (k:=kk) (v:=kvt) (kv:=kv) (es:=[]) (Es:=#[]) hd (q:=none) rfl (fun j hj=>by simp at hj) rfl).1
    refine⟨zv,fun _=>hzv,fun ok=>?_⟩
    simp only[Instr.lookup,Sem.run_bind,run_underlying hu w,Result.andThen,Sem.run_pure,hc,hf,Option.map_none,hzr]
    cases ok <;> rfl
  . obtain ⟨hf,hj⟩:=zdr (F:=F) (w:=w) (P:=P) hd h2 h3 hm
    cases q with
    | none=>
     cases hr
     refine⟨zv,fun _=>hzv,fun ok=>?_⟩
     simp only[Instr.lookup,Sem.run_bind,run_underlying hu w,Result.andThen,MapKept.run_getObj_map h1,Sem.run_pure,hc,hf,Option.map_none,hzr]
     cases ok <;> rfl
    | some j=>
     obtain ⟨hj,_⟩:=hj j rfl
     have e1:es[j]?=some (es.getD j default):=by simp[List.getD,hj]
     simp only[Option.map_some,e1,Option.some.injEq]at hr
     subst hr
     refine⟨_,h4 j hj,fun ok=>?_⟩
     simp only[Instr.lookup,Sem.run_bind,run_underlying hu w,Result.andThen,MapKept.run_getObj_map h1,Sem.run_pure,hc,hf,Option.map_some]
     cases ok <;> rfl
theorem zrV(h:Rel B F β st a w){t:TypeId}{x:Operand}{r:AV}(hr:zAw P st t (st.ev x)=some r) : ∃ y,V F w β r y/\∀ ty,(Builtin.len_ #[t] ty #[a.eval x]).run P w=.ok y w:=by
 have hv:=h.ev x
 unfold zAw at hr
 split at hr
 . rename_i k v es hxe
   rw[hxe]at hv
   split at hr
   . rename_i kt vt hu
     cases hr
     exact⟨_,.v _,fun ty=>zh4 (zC7 hv) hu ty⟩
   . cases hr
 . rename_i b hxe
   rw[hxe]at hv
   obtain ⟨_,hy⟩:=ztM hv
   rw[hy]
   split at hr
   . rename_i hu hb
     cases hr
     exact⟨_,.v _,fun ty=>zh4 (zA0 (h.heap.blk _ _ hb)) hu ty⟩
   . rename_i hu hb
     cases hr
     exact⟨_,.v _,fun ty=>zh4 (zC7 (show D F w (.mp _ _ _) (.map (some (β.b b)))from h.heap.blk _ _ hb)) hu ty⟩
   . cases hr
 . rename_i ty xs hxe
   rw[hxe]at hv
   obtain ⟨A,c,hA⟩:=zpT hv
   split at hr
   . rename_i e hu
     simp at hr;subst hr
     exact⟨_,.v _,fun ty=>by simp[Builtin.len_,Sem.run_bind,run_underlying hu w,hA,goInt]⟩
   . cases hr
 . rename_i b hxe
   rw[hxe]at hv
   obtain ⟨hbm,hvy,_⟩:=zdw hv
   split at hr
   . rename_i e e' ty cols hole xs hu hb
     simp at hr;subst hr
     obtain ⟨A,c,hA⟩:=zx2 (h.heap.blk b _ hb)
     exact⟨_,.v _,fun ty=>by simp[Builtin.len_,Sem.run_bind,run_underlying hu w,hvy,hA,goInt]⟩
   . rename_i e ty xs hu hb
     simp at hr;subst hr
     obtain ⟨A,c,hA⟩:=zpT (show D F w (.sl ty xs) (β.v b)from h.heap.blk b _ hb)
     exact⟨_,.v _,fun ty=>by simp[Builtin.len_,Sem.run_bind,run_underlying hu w,hvy,hA,goInt]⟩
   . cases hr
 . rename_i b sz o n hxe
   rw[hxe]at hv
   obtain ⟨A,c',_,_,hy,_⟩:=zGT hv
   split at hr
   . rename_i e hu
     simp at hr;subst hr
     exact⟨_,.v _,fun ty=>by simp[Builtin.len_,Sem.run_bind,run_underlying hu w,hy,goInt]⟩
   . cases hr
 . rename_i z hxe
   rw[hxe]at hv
   cases hc:zeU P (Builtin.len_ #[t] 0 #[z])with
   | none=>simp[hc]at hr
   | some q=>
    simp[hc]at hr;subst hr
    have hl : ∀ ty,Builtin.len_ #[t] ty #[z]=Builtin.len_ #[t] 0 #[z]:=fun _=>rfl
    exact⟨q,zg0 q,fun ty=>by rw[V_v hv,hl,zdz hc w]⟩
 . cases hr
theorem zmH{α:Type}{n:Nat}{k:AV->Option α}{r:α} : ∀ {cs:List AV} {j:Nat},zmF n j cs k=some r->∃ q,n=j+q/\q<cs.length/\k (cs.getD q .undef)=some r
 | [],j,h=>by cases h
 | c :: cs,j,h=>by
  simp only[zmF]at h
  cases hb:Nat.beq n j with
  | true=>rw[hb]at h;exact⟨0,Nat.eq_of_beq_eq_true hb,by simp,h⟩
  | false=>
   rw[hb]at h
   obtain ⟨q,h1,h2,h3⟩:=zmH h
   exact⟨q+1,by omega,by simpa using h2,by simpa using h3⟩
theorem zsh(h:HOk F w β st.heap){t:TypeId}{b o0:Nat}{ty:Ty}{m i d:Nat}{r:AV}{v:Value}(hx:V F w β (.rex b o0 ty m i d) v)(hr:st.loadX P t b o0 ty m i d=some r) :
 ∃ y,V F w β r y/\(Instr.loadAt t v).run P w=.ok y w:=by
 unfold St.loadX at hr
 obtain ⟨hb,hi,rfl⟩:=zrC hx
 split at hr
 . rename_i e cs hcs
   split at hr
   . rename_i xs hxs
     obtain ⟨ys,T,h1,h2,_,h3⟩:=h.blk b _ hcs
     obtain ⟨d1,d2,d3⟩:=zdA (F:=F) (w:=w) (β:=β) hxs
     have hlen:o0+m*ty.sz<=cs.length ∨ m*ty.sz=0:=by
      simp only[List.length_take,List.length_drop]at d2;omega
     have hmp:0<m*ty.sz:=Nat.mul_pos (by omega) (zbw ty)
     have hlen':o0+m*ty.sz<=cs.length:=by omega
     obtain ⟨y,hy,hrun⟩:=zew (P:=P) hr (β.b b) (o0+i*ty.sz) (fun j=>ys.getD (o0+(i*ty.sz+j)) undef) (fun j hj=>by
      rw[zaj]at hj
      have hij:=zb0 hi hj
      refine d3 i j hi hj _ ?_
      have e0:((cs.drop o0).take (m*ty.sz)).getD (i*ty.sz+j) .undef=cs.getD (o0+(i*ty.sz+j)) .undef:=by simp[List.getD,List.getElem?_take,hij]
      rw[e0]
      exact h3 _ (by omega))
     refine⟨y,hy,?_⟩
     have:=hrun w fun j hj=>by
      rw[zaj]at hj
      have hij:=zb0 hi hj
      rw[Nat.add_assoc,cell_of_row w (β.b b) (o0+(i*ty.sz+j)) ys T (0,0) h1];simp[Array.getD,show o0+(i*ty.sz+j)<ys.size by omega]
     simpa [Instr.loadAt,Instr.sureAddr,Sem.run_bind]using this
   . cases hr
 . cases hr
theorem zof{t e:TypeId}(ad:Addr)(m c:Nat)(hu:P.underlying t=some (.slice e)) :
 (binOp .eql t (.slice (some ad) m c) (.slice none 0 0)).run P w=.ok (.bool false) w/\(binOp .neq t (.slice (some ad) m c) (.slice none 0 0)).run P w=.ok (.bool true) w:=by
 have h1:(Op.equalIn 10000 t (.slice (some ad) m c) (.slice none 0 0)).run P w=.ok false w:=by
  unfold Op.equalIn;rw[Sem.run_bind,run_underlying hu w];rfl
 have e1:(Op.equal t (.slice (some ad) m c) (.slice none 0 0)).run P w=.ok false w:=h1
 refine⟨?_,?_⟩ <;> simp only[binOp] <;> simp[e1]
theorem zvZ{t:Ty}{xs:List t.T}{v:Value}(h:V F w β (.sl t xs) v)(hne:xs ≠ []) : ∃ ad m c,v=.slice (some ad) m c:=by
 cases h with
 | sl0=>exact absurd rfl hne
 | sl _ _ b o c Y=>exact⟨_,_,_,rfl⟩
theorem zA6{nm:String}{t:TypeId}{x:AV}{y:Value}(h:V F w β (.fn (.method nm) [.ifc t x] []) y) : ∃ z,y=.func (.method nm) #[.iface t z] #[]:=by
 cases h with
 | fn _ _ _ ya yc hla hlc ha hc=>
  have h0:=ha 0 (by simp)
  have hya : ∃ u,ya=#[u]:=by
   match ya,hla with
   | ⟨[u]⟩,_=>exact⟨u,rfl⟩
  obtain ⟨u,rfl⟩:=hya
  have hyc:yc=#[]:=by apply Array.eq_empty_of_size_eq_zero;simpa using hlc
  subst hyc
  have h0:V F w β (.ifc t x) u:=by simpa using h0
  cases h0 with
  | ifc _ _ z _=>exact⟨z,rfl⟩
theorem zqz {t:TypeId} {nm:String} {f:FuncId} (hm:zdF P t nm=some f) {z:Value} {w':World}:(nilAhead (P.types.size+Made.depth) t z nm).run P w'=.ok (some false) w':=by
 unfold zdF at hm
 split at hm
 . rename_i i fs hi hu
   split at hm
   . rename_i m hfind
     split at hm
     . rename_i f' hp hfn
       have hp':m.path=#[]:=by simpa using hp
       have hd:P.types.size+Made.depth=(P.types.size+(Made.depth-1))+1:=by
        have:0<Made.depth:=by decide
        omega
       rw[hd]
       simp[nilAhead,typeInfo,Sem.run_bind,run_program,hi,hfind,hp',followBlind,hfn,run_underlying hu w']
     . cases hm
   . cases hm
 . cases hm
theorem zoz {α : Type} (h:Rel B F β st a w) {o:Oper} {k:AV->Option α} {r:α} (hr:evT P st o k=some r) : ∃ x,zu3 P F β o a w x/\k x=some r:=by
 unfold evT at hr
 unfold zu3 execOp
 split at hr
 . rename_i c x y hop
   split at hr
   . rename_i t hc
     have hv:=h.ev c;rw[hc]at hv
     have hv:=V_v hv
     cases t
     . exact⟨st.ev y,⟨_,h.ev y,by simp[hop,hv,asBool]⟩,hr⟩
     . exact⟨st.ev x,⟨_,h.ev x,by simp[hop,hv,asBool]⟩,hr⟩
   . cases hr
 . rename_i x hop
   have hv:=h.ev x
   split at hr
   . rename_i b off he
     rw[he]at hv
     obtain ⟨hb,hy⟩:=zhC hv
     exact⟨_,⟨_,.ref b off hb,by simp[hop,hy]⟩,hr⟩
   . rename_i t xs i off he
     rw[he]at hv
     have hv':=hv
     obtain ⟨b,o',Y,hi,hy,hrest⟩:=ztL hv
     exact⟨_,⟨_,hv',by simp[hop,hy]⟩,hr⟩
   . rename_i b sz i off he
     rw[he]at hv
     have hv':=hv
     obtain ⟨p,n,c,_,_,_,hy⟩:=zlW hv
     exact⟨_,⟨_,hv',by simp[hop,hy]⟩,hr⟩
   . rename_i b o0 ty m i d he
     rw[he]at hv
     have hv':=hv
     obtain ⟨_,_,hy⟩:=zrC hv
     exact⟨_,⟨_,hv',by simp[hop,hy]⟩,hr⟩
   . rename_i f fa fc he
     rw[he]at hv
     have hf : ∃ ya yc,a.eval x=.func (.func f) ya yc:=by
      generalize a.eval x=q at hv
      cases hv
      exact⟨_,_,rfl⟩
     obtain ⟨ya,yc,hy⟩:=hf
     exact⟨_,⟨_,hv,by simp[hop,hy]⟩,hr⟩
   . rename_i nm t z he
     rw[he]at hv
     split at hr
     . rename_i f hm
       obtain ⟨u,hy⟩:=zA6 hv
       exact⟨_,⟨_,hv,by simp[hop,hy,Sem.run_bind,run_program,zqz hm]⟩,hr⟩
     . cases hr
   . rename_i t y he
     rw[he]at hv
     cases y with
     | none=>cases hr
     | some y=>
      have hv':=zFq hv
      obtain ⟨b,o',Y,hy,_⟩:=zzi hv
      exact⟨_,⟨_,hv',by simp[hop,hy]⟩,hr⟩
   . cases hr
 . rename_i t x i hop
   split at hr
   . rename_i e ty xs kd n hu hx hi
     split at hr
     . rename_i hs
       have hv:=h.ev x;rw[hx]at hv
       have hiv:=h.ev i;rw[hi]at hiv
       cases hin:zO n xs.length with
       | false=>rw[hin]at hr;cases hr
       | true=>
        rw[hin]at hr
        obtain ⟨y,hy,hrun⟩:=zfY (P:=P) (k:=kd) hu (Nat.eq_of_beq_eq_true hs) hin hv
        exact⟨_,⟨y,hy,by simp[hop,V_v hiv,Sem.run_bind,hrun]⟩,hr⟩
     . cases hr
   . rename_i e b kd n hu hx hi
     have hv:=h.ev x;rw[hx]at hv
     have hiv:=h.ev i;rw[hi]at hiv
     obtain ⟨hbm,hvy,_⟩:=zdw hv
     split at hr
     . rename_i e' ty cols hole xs hb
       split at hr
       . rename_i hs
         cases hin:zO n xs.length with
         | false=>rw[hin]at hr;cases hr
         | true=>
          rw[hin]at hr
          obtain ⟨y,hy,hrun⟩:=zmi (P:=P) (k:=kd) hu (Nat.eq_of_beq_eq_true hs) hin hbm (h.heap.blk b _ hb)
          exact⟨_,⟨y,hy,by simp[hop,hvy,V_v hiv,Sem.run_bind,hrun]⟩,hr⟩
       . cases hr
     . rename_i ty xs hb
       split at hr
       . rename_i hs
         cases hin:zO n xs.length with
         | false=>rw[hin]at hr;cases hr
         | true=>
          rw[hin]at hr
          obtain ⟨y,hy,hrun⟩:=zfY (P:=P) (k:=kd) hu (Nat.eq_of_beq_eq_true hs) hin (show D F w (.sl ty xs) (β.v b)from h.heap.blk b _ hb)
          exact⟨_,⟨y,hy.ofD,by simp[hop,hvy,V_v hiv,Sem.run_bind,hrun]⟩,hr⟩
       . cases hr
     . cases hr
   . rename_i e b sz o' m kd n hu hx hi
     have hv:=h.ev x;rw[hx]at hv
     have hiv:=h.ev i;rw[hi]at hiv
     split at hr
     . rename_i hs
       cases hin:zO n m with
       | false=>rw[hin]at hr;cases hr
       | true=>
        rw[hin]at hr
        simp only[Bool.and_eq_true]at hs
        obtain ⟨y,hy,hrun⟩:=zn3 (P:=P) (k:=kd) hu (Nat.eq_of_beq_eq_true hs.1) (by simpa using hs.2) hin hv
        exact⟨_,⟨y,hy,by simp[hop,V_v hiv,Sem.run_bind,hrun]⟩,hr⟩
     . cases hr
   . rename_i m e b off kd n hu hx hi
     have hv:=h.ev x;rw[hx]at hv
     have hiv:=h.ev i;rw[hi]at hiv
     split at hr
     . rename_i ty hty
       split at hr
       . rename_i hs
         cases hin:zO n m with
         | false=>rw[hin]at hr;cases hr
         | true=>
          rw[hin]at hr
          obtain ⟨y,hy,hrun⟩:=zmj (P:=P) (k:=kd) hu (Nat.eq_of_beq_eq_true hs) hin hv
          exact⟨_,⟨y,hy,by simp[hop,V_v hiv,Sem.run_bind,hrun]⟩,hr⟩
       . cases hr
     . cases hr
   . cases hr
 . rename_i t x i hop
   split at hr
   . rename_i s kd n hu hx hi
     have hv:=h.ev x;rw[hx]at hv
     have hiv:=h.ev i;rw[hi]at hiv
     cases hin:zO n s.size with
     | false=>rw[hin]at hr;cases hr
     | true=>
      rw[hin]at hr
      obtain ⟨b,hb,he⟩:=zDk s n hin
      have h0:=(inR_iff.1 hin).1
      exact⟨_,⟨_,.v _,by simp[hop,V_v hiv,V_v hv,Instr.index,asIntOf,Sem.run_bind,run_underlying hu w,h0,hb,he]⟩,hr⟩
   . rename_i m e cs kd n hu hx hi
     have hv:=h.ev x;rw[hx]at hv
     have hiv:=h.ev i;rw[hi]at hiv
     split at hr
     . rename_i hfn
       simp only[Bool.and_eq_true]at hfn
       obtain ⟨hf1,hf2⟩:=hfn
       have hcl:=Nat.eq_of_beq_eq_true hf2
       cases hin:zO n m with
       | false=>rw[hin]at hr;cases hr
       | true=>
        rw[hin]at hr
        obtain ⟨ys,hy,hl,hc⟩:=ziy hv
        obtain ⟨h0,h1⟩:=inR_iff.1 hin
        obtain ⟨q,hq1,hq2,hq3⟩:=zmH hr
        have hq1:n.toNat=q:=by omega
        subst hq1
        unfold zFi at hf1
        split at hf1
        . rename_i hu2 ha2 hc2
          obtain ⟨z,hz,hrun⟩:=zoH (P:=P) (F:=F) (w:=w) (β:=β) (t:=e) (cs:=[cs.getD n.toNat .undef]) (ys:=ys) (o:=n.toNat) (r:=cs.getD n.toNat .undef) (by unfold rd;rw[ha2];rfl) (by simp;omega) (fun j hj=>by
           have:j=0:=by simpa using hj
           subst this
           simpa using hc n.toNat hq2)
          obtain ⟨i',hi',hsz⟩:=zcY hc2 (by omega)
          refine⟨_,⟨z,hz,?_⟩,hq3⟩
          have h1':n<(m:Int):=h1
          simp[hop,V_v hiv,hy,Instr.index,asIntOf,asAgg,Sem.run_bind,run_underlying hu w,h0,h1',zaP hi' w,hsz,hrun]
        . cases hf1
     . split at hr
       . rename_i ty hty
         split at hr
         . rename_i xs hxs
           split at hr
           . rename_i r' hrd hs
             cases hin:zO n m with
             | false=>rw[hin]at hr;cases hr
             | true=>
              rw[hin]at hr
              obtain ⟨ys,hy,hl,hc⟩:=ziy hv
              obtain ⟨d1,d2,d3⟩:=zdA (F:=F) (w:=w) (β:=β) hxs
              obtain ⟨h0,h1⟩:=inR_iff.1 hin
              have hs':=Nat.eq_of_beq_eq_true hs
              have hn:n.toNat<m:=by omega
              have hext : ∀ j,j<ty.sz->V F w β ((ty.enc (nth xs n.toNat)).getD j .undef) (ys.getD (n.toNat*ty.sz+j) undef):=fun j hj=>d3 n.toNat j hn hj _ (hc _ (by rw[d2];exact zb0 hn hj))
              obtain ⟨z,hz,hrun⟩:=zoH (P:=P) (w:=w) (o:=n.toNat*ty.sz) hrd (by rw[hl,d2,zaj,← Nat.succ_mul];exact Nat.mul_le_mul_right _ hn) (fun j hj=>hext j (by rwa [zaj]at hj))
              obtain ⟨i',hi',hsz⟩:=zcY hs' (zbw ty)
              exact⟨_,⟨z,hz,by
               have h1':n<(m:Int):=h1
               simp[hop,V_v hiv,hy,Instr.index,asIntOf,asAgg,Sem.run_bind,run_underlying hu w,h0,h1',zaP hi' w,hsz,hrun]⟩,hr⟩
           . cases hr
         . cases hr
       . cases hr
   . cases hr
 . rename_i t x lo hi hop
   split at hr
   . rename_i ty xs hx
     have hv:=h.ev x;rw[hx]at hv
     split at hr
     . rename_i e l hh hu hlo hhi
       split at hr
       . rename_i hs
         cases hin:inS l hh xs.length with
         | false=>rw[hin]at hr;cases hr
         | true=>
          rw[hin]at hr
          obtain ⟨y,hy,hrun⟩:=zlc (P:=P) hu (Nat.eq_of_beq_eq_true hs) hv (zcJ h hlo) (zcJ h hhi) hin
          exact⟨_,⟨y,hy,by simp[hop,Sem.run_bind,hrun w]⟩,hr⟩
       . cases hr
     . cases hr
   . rename_i s hx
     have hv:=h.ev x;rw[hx]at hv
     split at hr
     . rename_i l hh hu hlo hhi
       cases hin:inS l hh s.size with
       | false=>rw[hin]at hr;cases hr
       | true=>
        rw[hin]at hr
        obtain ⟨h0,h1,h2⟩:=inS_iff.1 hin
        refine⟨_,⟨_,.v _,?_⟩,hr⟩
        simp[hop,V_v hv,Instr.sliceAt,Instr.slice,Sem.run_bind,run_underlying hu w,zia (P:=P) (zcJ h hlo) (zcJ h hhi) h0 h1 h2 (Nat.le_refl _) w]
     . cases hr
   . cases hr
 . rename_i args tys hop
   split at hr
   . rename_i x t hx ht
     split at hr
     . rename_i y hy
       have e1:args=#[x]:=by apply Array.ext';simpa using hx
       have e2:tys=#[t]:=by apply Array.ext';simpa using ht
       subst e1 e2
       obtain ⟨z,hz,hrun⟩:=zrV h hy
       exact⟨y,⟨z,hz,by simp[hop,resolve,invoke,builtin,Sem.run_bind,hrun]⟩,hr⟩
     . cases hr
   . cases hr
 . rename_i args tys hop
   split at hr
   . rename_i vs hvs
     split at hr
     . rename_i q hq
       refine⟨_,⟨q,zg0 q,?_⟩,hr⟩
       have hA:args.map a.eval=vs.toArray:=by
        have:=znU h hvs
        apply Array.ext'
        simpa using this
       simp[hop,resolve,invoke,builtin,Sem.run_bind,hA,zdz hq w]
     . cases hr
   . cases hr
 . rename_i args tys hop
   split at hr
   . rename_i vs hvs
     split at hr
     . rename_i q hq
       refine⟨_,⟨q,zg0 q,?_⟩,hr⟩
       have hA:args.map a.eval=vs.toArray:=by
        have:=znU h hvs
        apply Array.ext'
        simpa using this
       simp[hop,resolve,invoke,builtin,Sem.run_bind,hA,zdz hq w]
     . cases hr
   . cases hr
 . rename_i op t x y ty' hop
   split at hr
   . rename_i ty xs hx hy
     have hvx:=h.ev x;rw[hx]at hvx
     have hvy:=V_v (by have:=h.ev y;rwa [hy]at this)
     split at hr
     . rename_i e hu
       cases hz:Nat.beq xs.length 0 with
       | true=>rw[hz]at hr;cases hr
       | false=>
        rw[hz]at hr
        obtain ⟨ad,m,c,hva⟩:=zvZ hvx (fun e=>by subst e;cases hz)
        exact⟨_,⟨_,.v _,by simp[hop,hvy,hva,eqGuard,Sem.run_bind,(zof ad m c hu).1]⟩,hr⟩
     . rename_i e hu
       cases hz:Nat.beq xs.length 0 with
       | true=>rw[hz]at hr;cases hr
       | false=>
        rw[hz]at hr
        obtain ⟨ad,m,c,hva⟩:=zvZ hvx (fun e=>by subst e;cases hz)
        exact⟨_,⟨_,.v _,by simp[hop,hvy,hva,eqGuard,Sem.run_bind,(zof ad m c hu).2]⟩,hr⟩
     . cases hr
   . rename_i ka m kb n hx hy
     have hvx:=V_v (by have:=h.ev x;rwa [hx]at this)
     have hvy:=V_v (by have:=h.ev y;rwa [hy]at this)
     split at hr
     . rename_i hd hk
       have hk:=of_decide_eq_true hk
       subst hk
       cases hz:decide (n=0)with
       | true=>rw[hz]at hr;cases hr
       | false=>
        rw[hz]at hr
        have hz:=of_decide_eq_false hz
        refine⟨_,⟨_,.v _,?_⟩,hr⟩
        cases op <;> first | (cases hd;done) | simp[hop,hvx,hvy,eqGuard,Sem.run_bind,binOp,Op.intDiv,hz,dv]
     . split at hr
       . rename_i x' hx'
         exact⟨x',zg8 h hx',hr⟩
       . cases hr
   . split at hr
     . rename_i x' hx'
       exact⟨x',zg8 h hx',hr⟩
     . cases hr
 . rename_i t ad hop
   split at hr
   . rename_i b o0 ty m i d he
     split at hr
     . rename_i x hx
       have hv:=h.ev ad;rw[he]at hv
       obtain ⟨y,hy,hrun⟩:=zsh h.heap hv hx
       exact⟨x,⟨y,hy,by simp[hop,Sem.run_bind,hrun]⟩,hr⟩
     . cases hr
   . split at hr
     . rename_i x hx
       exact⟨x,zg8 h hx,hr⟩
     . cases hr
 . rename_i t m x ok hop
   split at hr
   . rename_i kt vt hu
     split at hr
     . rename_i kk kvt kv hkk hkv hky
       obtain ⟨hy,hc⟩:=zj4 hky (h.ev x)
       split at hr
       . rename_i es fl z0 hes hz
         have hM:=zsi h.heap (h.ev m) hes
         cases hf:zes (zdE P kt kk kv) es with
         | none=>rw[hf]at hr;cases hr
         | some r'=>
          rw[hf]at hr
          obtain ⟨u,hu1,hu2⟩:=zur hu hM hz hc hf
          refine⟨_,⟨_,?_,by simp[hop,Sem.run_bind,hy,hu2 ok];rfl⟩,hr⟩
          have hu3:V F w β (flA fl (zbU kvt (r'.getD z0))) u:=by
           cases fl with
           | false=>exact .undef _
           | true=>exact .ofD (hu1 rfl)
          cases ok with
          | false=>exact hu3
          | true=>exact .tup _ _ rfl fun j hj=>(match j,hj with | 0,_=>hu3 | 1,_=>.v _)
       . cases hr
     . cases hr
   . cases hr
 . rename_i hq
   split at hr
   . rename_i x hx
     exact⟨x,zg8 h hx,hr⟩
   . cases hr
end
end Go.Proofs.YtgajeebphoiphaaGreatDoor
end
