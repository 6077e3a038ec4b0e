import Derived.Test.YtgajeebphoiphaaGreatDoorS5
import Derived.Lib.AppendZerosOnto
set_option linter.unusedVariables false
set_option linter.unusedSimpArgs false
noncomputable section
open Go.IntKind (i64 u32)
namespace Go.Proofs.YtgajeebphoiphaaGreatDoor
open Go.RowKit
section
variable {P:Program} {B:Bs} {F:Nat->Prop} {β:Gh} {st:St} {a:Act} {w:World}
theorem zfA(st:St)(k:Blk)(d:Option Nat):Al st (st.push k d):=by cases d <;> exact⟨rfl,rfl,by simp[St.push,St.put,St.set]⟩
theorem zhc(z:Array Value)(n k:Nat)(hk:k<n)(hz:0<z.size):(madeCells z n).toList.getD k undef=z.getD (k % z.size) undef:=by
 have hm:k % z.size<z.size:=Nat.mod_lt _ hz
 simp[madeCells,List.getD,hk,getElem!_def,hm,Array.getD]
theorem zgq : ∀ {cols:List (Nat × TypeId)} {z:List AV} {j:Nat} {e:TypeId},zhe cols z=true->zaA cols j=some e->zbc (z.getD j .undef)=true
 | [],z,j,e,_,h=>by simp[zaA]at h
 | (c,e') :: r,z,j,e,hn,h=>by
  simp only[zhe]at hn
  split at hn
  . rename_i h1
    simp only[zaA]at h
    split at h
    . rename_i hc
      have:=Nat.eq_of_beq_eq_true hc
      subst this;exact h1
    . exact zgq hn h
  . cases hn
theorem zux{cols:List (Nat × TypeId)}{sz:Nat} : ∀ {n:Nat} {cs:List AV} {i j:Nat} {e:TypeId},zuw cols sz n cs=true->i<n->j<sz->zaA cols j=some e->zbc (cs.getD (i*sz+j) .undef)=true
 | 0,_,_,_,_,_,hi,_,_=>by omega
 | n + 1,cs,i,j,e,h,hi,hj,hc=>by
  simp only[zuw]at h
  split at h
  . rename_i h1
    cases i with
    | zero=>
     have:=zgq h1 hc
     simpa [List.getD,List.getElem?_take,hj]using this
    | succ i=>
     have:=zux h (by omega) hj hc (i:=i)
     have e0:(cs.drop sz).getD (i*sz+j) .undef=cs.getD ((i+1)*sz+j) .undef:=by
      simp only[List.getD,List.getElem?_drop]
      congr 2
      rw[Nat.add_mul];omega
     rwa [e0]at this
  . cases h
theorem zkQ{t:Ty} : ∀ {n:Nat} {cs:List AV} {xs:List t.T},zdd t n cs=some xs->∀ i j,i<n->j<t.sz->kp (cs.getD (i*t.sz+j) .undef) ((t.enc (nth xs i)).getD j .undef)
 | 0,cs,xs,h,i,j,hi,_=>by omega
 | n + 1,cs,xs,h,i,j,hi,hj=>by
  simp only[zdd]at h
  split at h
  . rename_i x xs' hx hxs
    simp at h;subst h
    have k1:=(zbm (F:=fun _=>False) (w:=default) (β:=Gh.nil) hx).1
    cases i with
    | zero=>
     have:=zen hx j (by omega)
     have e:(cs.take t.sz).getD j .undef=cs.getD j .undef:=by simp[List.getD,List.getElem?_take,hj]
     rw[e]at this
     simpa [nth]using this
    | succ i=>
     have:=zkQ hxs i j (by omega) hj
     have e:(cs.drop t.sz).getD (i*t.sz+j) .undef=cs.getD ((i+1)*t.sz+j) .undef:=by
      simp only[List.getD,List.getElem?_drop]
      congr 2
      rw[Nat.add_mul];omega
     rw[e]at this
     simpa [nth]using this
  . cases h
theorem zus(h:Rel B F β st a w){o:Oper}{t e:TypeId}{l c:Operand}(hop:o.op=.makeSlice t l c)(hu:P.underlying t=some (.slice e)){n:Int}(hl:st.ev l=.v (.int .i64 n))(hc:st.ev c=.v (.int .i64 n)){ty:Ty}{z:List AV}{i:TypeInfo}
 (hz:zdp P e=some z) (hi:P.info? e=some i) {x:ty.T} (hx:ty.dec z=some x) (hs:i.size=ty.sz) (hb:0<i.bytes) (h0:0<=n) (hle:n.toNat*i.bytes<=140737488355328) {cols:List (Nat × TypeId)} (hcl:zhe cols z=true) {next:Act->World->Prop} {Q:Exit->Act->World->Prop}
 (hk : ∀ u w' β',Rel B F β' (st.push (.row e ty cols [] (List.replicate n.toNat x)) o.dst) (a.put o.dst u) w'->next (a.put o.dst u) w'):o.wp P a w next Q:=by
 obtain ⟨i',zv,hi',hzv,rfl⟩:=zdq hz
 obtain rfl:i=i':=by rw[hi]at hi';simpa using hi'
 obtain ⟨d1,d2⟩:=zbm (F:=F) (w:=w) (β:=Gh.nil) hx
 have hzs:zv.cells.size=ty.sz:=by simpa using d1
 have hn1:n.toNat<=n.toNat*i.bytes:=Nat.le_mul_of_pos_right _ hb
 obtain ⟨w',hrun,hown,hgrow⟩:=run_make_full (P:=P) w 0 t e i zv ty.sz hu hi hzv hs .i64 .i64 n.toNat (by rw[Nat.mul_comm];omega) (by simp only[maxLen];omega) (Nat.zero_le _)
 have hl':a.eval l=.int .i64 n:=by have:=h.ev l;rw[hl]at this;exact V_v this
 have hc':a.eval c=.int .i64 n:=by have:=h.ev c;rw[hc]at this;exact V_v this
 have hcell : ∀ i j,i<n.toNat->j<ty.sz->(madeCells zv.cells (n.toNat*ty.sz)).toList.getD (i*ty.sz+j) undef=zv.cells.getD j undef:=fun i j hi' hj=>by
  rw[zhc _ _ _ (zb0 hi' hj) (by rw[hzs];exact zbw ty),hzs,Nat.mul_comm i,Nat.mul_add_mod,Nat.mod_eq_of_lt hj]
 obtain ⟨β',hR,_⟩:=h.pushRow (cols:=cols) (row:=none) (xs:=List.replicate n.toNat x) (by simpa using hown) hgrow (by simp;omega) (fun p hp=>by cases hp) (fun p hp=>by right;simp[Value.ownBlock]at hp;omega) (fun i j e' hi' hj hc=>by
  have hi'':i<n.toNat:=by simpa using hi'
  have e:nth (List.replicate n.toNat x) i=x:=by simp[nth,List.getD,hi'']
  have hnil:=zgq hcl hc
  rw[e,hcell i j hi'' hj]
  refine⟨(zen hx j (by simpa [hzs]using hj)).2.1 hnil,?_⟩
  have hj':j<zv.cells.size:=by omega
  unfold zbc at hnil
  split at hnil
  . rename_i hq
    simp only[List.getD,List.getElem?_map,Array.getElem?_toList,hj',Array.getElem?_eq_getElem,Option.map_some,Option.getD_some,Array.getD,dite_true]at hq ⊢
    simpa using hq
  . cases hnil) (fun i j hi' hj=>by
  have hi'':i<n.toNat:=by simpa using hi'
  rw[zhc _ _ _ (zb0 hi'' hj) (by rw[hzs];exact zbw ty),hzs,Nat.mul_comm i,Nat.mul_add_mod,Nat.mod_eq_of_lt hj]
  have e:nth (List.replicate n.toNat x) i=x:=by simp[nth,List.getD,hi'']
  rw[e]
  refine d2 j _ (by rw[d1];exact hj) ?_
  have hj':j<zv.cells.size:=by omega
  simp only[List.getD,List.getElem?_map,Array.getElem?_toList,hj',Array.getElem?_eq_getElem,Option.map_some,Option.getD_some,Array.getD,dite_true]
  exact .v _) o.dst
 refine zaS (w':=w') (y:=.slice (some ⟨w.heap.size,0,none⟩) n.toNat n.toNat) ?_ (hk _ _ _ hR)
 rw[Int.toNat_of_nonneg h0]at hrun
 simp[execOp,hop,hl',hc',Sem.run_bind,hrun]
theorem zxO(h:Rel B F β st a w){o:Oper}{t e:TypeId}{len:Nat}{parts:Array (Nat × Operand)}(hop:o.op=.buildSlice t len parts)(hu:P.underlying t=some (.slice e)){ty:Ty}{z cs zs:List AV}{i:TypeInfo}{st1:St}{xs:List ty.T}
 (hz:zdp P e=some z) (hi:P.info? e=some i) (hs:i.size=ty.sz) (hle:len<=4096) (hf:zgl (fun j=>some (j*i.size,i.size)) (List.replicate len z).flatten (zeL st parts.toList)=some cs) {cols:List (Nat × TypeId)} (hzr:St.gives cols ty.sz 0 cs st=some (zs,st1)) (hd:zdd ty len zs=some xs)
 (hzl:z.length=ty.sz) {next:Act->World->Prop} {Q:Exit->Act->World->Prop}
 (hk : ∀ u w' F' β',Rel B F' β' (st1.push (.row e ty cols [] xs) o.dst) (a.put o.dst u) w'->Al st st1->next (a.put o.dst u) w'):o.wp P a w next Q:=by
 obtain ⟨i',zv,hi',hzv,rfl⟩:=zdq hz
 obtain rfl:i=i':=by rw[hi]at hi';simpa using hi'
 have hzs:zv.cells.size=ty.sz:=by simpa using hzl
 have hsp:=zbw ty
 have hfl:(List.replicate len (zv.cells.toList.map AV.v)).flatten.length=len*ty.sz:=by simp[hzs]
 have hfg : ∀ j,j<len*ty.sz->(List.replicate len (zv.cells.toList.map AV.v)).flatten.getD j .undef=.v (zv.cells.getD (j % ty.sz) undef):=by
  clear hf hle hd hop
  induction len with
  | zero=>intro j hj;simp at hj
  | succ n ih=>
   intro j hj
   simp only[List.replicate_succ,List.flatten_cons,List.getD]
   by_cases hjs:j<ty.sz
   . rw[List.getElem?_append_left (by simp;omega),Nat.mod_eq_of_lt hjs]
     simp[show j<zv.cells.size by omega,Array.getD]
   . rw[List.getElem?_append_right (by simp;omega)]
     have:=ih (by simp[hzs]) (j-ty.sz) (by rw[Nat.add_mul,Nat.one_mul]at hj;omega)
     simp only[List.getD]at this
     simp only[List.length_map,Array.length_toList,hzs]
     rw[this,← Nat.mod_eq_sub_mod (by omega)]
 obtain ⟨ys,q1,q2,q3⟩:=zhX h _ parts.toList _ cs (madeCells zv.cells (len*ty.sz)) (by rw[hfl,size_madeCells]) (fun j hj=>by
  rw[hfl]at hj
  rw[hfg j hj]
  have:=zhc zv.cells (len*ty.sz) j hj (by omega)
  have e:(madeCells zv.cells (len*ty.sz)).getD j undef=zv.cells.getD (j % ty.sz) undef:=by
   rw[← hzs,← this];simp[List.getD,Array.getD_eq_getD_getElem?]
   rw[hzs]
  rw[e]
  exact .v _) hf
 obtain ⟨F1,β1,z1,zl,zd⟩:=zk0 h hzr
 obtain ⟨d1,d2,d3⟩:=zd (fun j=>ys.getD j undef) q3
 simp only[Nat.zero_add]at d1 d2 d3
 obtain ⟨x1,x2,x3⟩:=zdA (F:=F1) (w:=w) (β:=Gh.nil) hd
 have hysz:ys.size=len*ty.sz:=by omega
 obtain ⟨T,t1,t2⟩:=places (cols:=cols) (sz:=ty.sz) (N:=cs.length) (Y:=fun j=>ys.getD j undef) d3
 have hown:(w.alloc (.cells ys e)).ownsRow 0 e ty.sz (.slice (some ⟨w.heap.size,0,none⟩) len len) xs.length ys.toList:=by
  rw[x1]
  exact⟨by simpa using hysz,.inr ⟨w.heap.size,len,ys,rfl,Nat.zero_le _,heap_alloc_new w _,Nat.le_refl _,Nat.le_trans hle (by decide),hysz,List.take_of_length_le (by simp[hysz])⟩⟩
 obtain ⟨β',hR,_⟩:=z1.rel.pushRowT (row:=none) (cols:=cols) T hown (World.grownBy_alloc w _ none) (by omega) (fun p hp=>by cases hp) (fun p hp=>.inr (Nat.le_of_eq (by simpa [Value.ownBlock]using hp))) (fun p s hp=>by
  obtain ⟨q,g1,g2,g3⟩:=t1 p s hp
  refine⟨fun e=>(by cases e),?_⟩
  have:=d1 q g1
  unfold GivC at this
  cases hc:zaA cols (q % ty.sz)with
  | none=>exact absurd hc g2
  | some e'=>
   rw[hc]at this
   rcases this with ⟨_,hv⟩ | ⟨t,us,Vs,_,_,_,h4,_⟩
   . rw[hv]at g3;simp[Value.ownBlock]at g3
   . obtain ⟨n,k1,k2⟩:=h4 p g3
     exact⟨n,none,k1,fun k hk=>by rw[k2]at hk;cases hk;rfl⟩) (fun i j hi' hj=>by
  have hij:=zb0 (show i<len by omega) hj
  have hg:=d1 (i*ty.sz+j) (by omega)
  have hm:(i*ty.sz+j) % ty.sz=j:=by rw[Nat.mul_comm,Nat.mul_add_mod,Nat.mod_eq_of_lt hj]
  have hdv:(i*ty.sz+j) / ty.sz=i:=by rw[Nat.mul_comm,Nat.mul_add_div hsp,Nat.div_eq_of_lt hj];rfl
  have hyl:ys.toList.getD (i*ty.sz+j) undef=ys.getD (i*ty.sz+j) undef:=by rw[List.getD_eq_getElem?_getD,Array.getElem?_toList,Array.getD_eq_getD_getElem?]
  rw[hyl]
  rw[hm]at hg
  unfold GivC at hg
  unfold CellT
  cases hc:zaA cols j with
  | none=>
   rw[hc]at hg
   exact x3 i j (by omega) hj _ hg
  | some e'=>
   rw[hc]at hg
   have hkp:=zkQ hd i j (by omega) hj
   rcases hg with ⟨g1,g2⟩ | ⟨t,us,Vs,g1,g2,g3,g4,g5⟩
   . obtain ⟨t,g3⟩:=hkp.2.1 g1
     rw[g2,g3]
     exact⟨t,[],[],rfl,World.ownsRow_nil w _ e' t.sz,by simp,fun p hp=>by simp[Value.ownBlock]at hp,fun k m hk=>by simp at hk⟩
   . refine⟨t,us,Vs,hkp.1 _ _ g1,g2,g3,fun p hp=>?_,g5⟩
     have:=t2 (i*ty.sz+j) p (by omega) (by rw[hm,hc];simp) hp
     rwa [hm,hdv]at this) o.dst
 refine zaS (w':=w.alloc (.cells ys e)) (y:=.slice (some ⟨w.heap.size,0,none⟩) len len) ?_ (hk _ _ _ _ hR z1.al)
 have hsm : ¬ 2 ^ 24<len*ty.sz:=by
  have:=zPG ty
  have:=Nat.mul_le_mul hle this
  omega
 have q1':Instr.fill (fun j=>some (j*ty.sz,ty.sz)) (madeCells zv.cells (len*ty.sz)) (parts.toList.map fun p=>(p.1,a.eval p.2))=some ys:=by rw[hs]at q1;exact q1
 have q1'':Instr.fill (fun j=>some (j*ty.sz,ty.sz)) ((Array.range (len*ty.sz)).map (zv.cells[· % zv.cells.size]!)) (parts.map fun(i,x)=>(i,a.eval x)).toList=some ys:=by
  rw[Array.toList_map];exact q1'
 have hfin : ∀ z0:Array Value,(len*ty.sz ≠ 0->z0=zv.cells)->Instr.fill (fun j=>some (j*ty.sz,ty.sz)) ((Array.range (len*ty.sz)).map (z0[· % z0.size]!)) (parts.map fun(i,x)=>(i,a.eval x)).toList=some ys:=by
  intro z0 hz0
  by_cases hl0:len*ty.sz=0
  . rw[hl0]at q1'' ⊢
    rw[show Array.range 0=#[]from rfl]at q1'' ⊢
    simpa using q1''
  . rw[hz0 hl0];exact q1''
 simp only[execOp,hop,Instr.buildSlice,Sem.run_bind,run_underlying hu w,Result.andThen_ok,zaP hi w,hs,if_neg hsm]
 by_cases hl0:len*ty.sz=0
 . have:=hfin #[] (fun h=>absurd hl0 h)
   rw[if_pos hl0]
   simp only[Sem.run_bind,Sem.run_pure,Result.andThen_ok,this]
   simp[newRow,newObj,Sem.run,Sem.run_bind]
 . have hzr:(zeroValue e).run P w=.ok zv w:=by simp[zeroValue,typeInfo,hi,hzv,Sem.run_bind,run_program]
   have:=hfin zv.cells (fun _=>rfl)
   rw[if_neg hl0]
   simp only[Sem.run_bind,hzr,Sem.run_pure,Result.andThen_ok,this]
   simp[newRow,newObj,Sem.run,Sem.run_bind]
theorem zjT : ∀ {a b:List (Nat × TypeId)},zhT a b=true->a=b
 | [],[],_=>rfl
 | (c,e) :: r,(c',e') :: r',h=>by
  simp only[zhT]at h
  split at h
  . rename_i h1 h2
    rw[Nat.eq_of_beq_eq_true h1,Nat.eq_of_beq_eq_true h2,zjT h]
  . cases h
 | [],_ :: _,h=>by simp[zhT]at h
 | _ :: _,[],h=>by simp[zhT]at h
theorem zrD{o:Oper}{t e:TypeId}{s x:Operand}(hop:o.op=.call { callee:=.builtin .append,args:=#[s,x],argTypes:=#[t,t] })(hu:P.underlying t=some (.slice e)){ty:Ty}{i:TypeInfo}
 (hi:P.info? e=some i) (hs:i.size=ty.sz) (hb:0<i.bytes) {zv:Value} (hzv:i.zero=some zv) (hzs:zv.cells.size=ty.sz) {xs ys:List ty.T} {st2:St} (hR2:Rel B F β st2 a w) {Vs:List Value} (hown:w.ownsRow 0 e ty.sz (a.eval s) xs.length Vs)
 (hsepv : ∀ p,(a.eval s).ownBlock=some p->(B.M p ∨ B.w.heap.size<=p)/\¬ F p/\∀ b k s',st2.heap[b]?=some k->β.o p=some (b,s')->k=.dead) {A:Option Addr} {c:Nat} {news:List Value} (hx:a.eval x=.slice A ys.length c) (hnl:news.length=ys.length*ty.sz)
 (hA0:A=none->ys.length=0) (hA1 : ∀ ad,A=some ad->∀ j u,news[j]?=some u->w.cell? (ad.add j)=some u) (h1c : ∀ u ∈ news,u.oneCell'=true) (hle:(xs.length+ys.length)*i.bytes<=140737488355328) {cols:List (Nat × TypeId)} (T:Nat->Option (Nat × Nat))
 (hT : ∀ p s',T p=some s'->(a.eval s).ownBlock ≠ some p/\∃ b s2,β.o p=some (b,s2)/\∀ k,st2.heap[b]?=some k->k=.dead)
 (hC1 : ∀ i j,i<xs.length->j<ty.sz->CellT F w T cols i j ((ty.enc (nth xs i)).getD j .undef) (Vs.getD (i*ty.sz+j) undef))
 (hC2 : ∀ i j,i<ys.length->j<ty.sz->CellT F w T cols (xs.length+i) j ((ty.enc (nth ys i)).getD j .undef) (news.getD (i*ty.sz+j) undef)) {next:Act->World->Prop} {Q:Exit->Act->World->Prop}
 (hk : ∀ u w' β',Rel B F β' (st2.push (.row e ty cols [] (xs++ys)) o.dst) (a.put o.dst u) w'->next (a.put o.dst u) w'):o.wp P a w next Q:=by
 have hmb:xs.length+ys.length<=(xs.length+ys.length)*i.bytes:=Nat.le_mul_of_pos_right _ hb
 have hrun : ∃ v' w',(Builtin.append_ #[t,t] o.type #[a.eval s,a.eval x]).run P w=.ok v' w'/\w'.ownsRow 0 e ty.sz v' (xs.length+ys.length) (Vs++news)/\w.grownBy w' (a.eval s).ownBlock/\(v'.ownBlock=(a.eval s).ownBlock ∨ v'.ownBlock=some w.heap.size):=by
  rw[hx]
  cases A with
  | some ad=>
   obtain ⟨v',w',r1,r2,r3,_,r5⟩:=run_append_own_at (P:=P) w 0 t o.type e i zv ty.sz i.bytes hu hi hzv hs rfl hzs (zbw ty) _ _ Vs hown ad ys.length c news hnl (hA1 ad rfl) h1c (by simp only[maxLen];omega) hle (Nat.zero_le _)
   exact⟨v',w',r1,r2,r3,r5⟩
  | none=>
   have h0:=hA0 rfl
   have hn0:news=[]:=List.eq_nil_of_length_eq_zero (by rw[hnl,h0,Nat.zero_mul])
   refine⟨a.eval s,w,?_,by simpa [h0,hn0]using hown,World.grownBy.refl _ _,.inl rfl⟩
   rw[h0]
   rcases hown.2 with ⟨hv,hn⟩ | ⟨g,cap,cur,hv,_,_,hnc,_⟩
   . rw[hv];simp[Builtin.append_,run_underlying hu,sizeOf,typeInfo,hi,Builtin.lenOf,Builtin.firstCells]
   . rw[hv];simp[Builtin.append_,run_underlying hu,sizeOf,typeInfo,hi,Builtin.lenOf,Builtin.firstCells,hnc,storeCells]
 obtain ⟨v',w',r1,r2,r3,r4⟩:=hrun
 obtain ⟨β',hR,_⟩:=hR2.pushRowT (xs:=xs++ys) (cols:=cols) T (by simpa using r2) r3 (by simp;omega) hsepv (fun p hp=>by
  rcases r4 with r4 | r4
  . exact .inl (r4 ▸ hp)
  . right;rw[r4]at hp;simp at hp;omega) hT (fun i' j hi' hj=>by
    have hVl:=hown.1
    by_cases hlt:i'<xs.length
    . have e1:nth (xs++ys) i'=nth xs i':=by simp[nth,List.getD,List.getElem?_append_left hlt]
      have e2:(Vs++news).getD (i'*ty.sz+j) undef=Vs.getD (i'*ty.sz+j) undef:=by
       simp only[List.getD];rw[List.getElem?_append_left (by rw[hVl];exact zb0 hlt hj)]
      rw[e1,e2];exact hC1 i' j hlt hj
    . have e1:nth (xs++ys) i'=nth ys (i'-xs.length):=by simp[nth,List.getD,List.getElem?_append_right (Nat.le_of_not_lt hlt)]
      have e3:i'*ty.sz+j=xs.length*ty.sz+((i'-xs.length)*ty.sz+j):=by
       rw[← Nat.add_assoc,← Nat.add_mul,Nat.add_sub_cancel' (Nat.le_of_not_lt hlt)]
      have e2:(Vs++news).getD (i'*ty.sz+j) undef=news.getD ((i'-xs.length)*ty.sz+j) undef:=by
       simp only[List.getD];rw[List.getElem?_append_right (by rw[hVl,e3];omega),hVl,e3,Nat.add_sub_cancel_left]
      have:=hC2 (i'-xs.length) j (by simp at hi';omega) hj
      rw[Nat.add_sub_cancel' (Nat.le_of_not_lt hlt)]at this
      rw[e1,e2];exact this) o.dst
 refine zaS (w':=w') (y:=v') ?_ (hk _ _ _ hR)
 simp[execOp,hop,resolve,invoke,builtin,Sem.run_bind,r1]
theorem zf6(t tn ty e:TypeId)(i:TypeInfo)(z:Value)(kq kn:IntKind)(ht:P.underlying t=some (.slice e))(htn:P.underlying tn=some (.int kn))(hi:P.info? e=some i)(hz:i.zero=some z)
 (g sLen sCap:Nat) (cur:Array Value) (hg:w.heap[g]?=some (.cells cur e (0,0))) (m:Nat) (h0:0<m) (hs:0<i.size) (h63:(m:Int)<=9223372036854775807) (h48:m*i.bytes<=281474976710656)
 (h1 : ∀ u ∈ (Builtin.zeroCells z.cells m).toList,u.oneCell'=true) (hroom:sLen+m<=sCap) (hfit:sLen*i.size+(Builtin.zeroCells z.cells m).toList.length<=cur.size) :
 (Builtin.append_ #[t,tn] ty #[.slice (some ⟨g,0,none⟩) sLen sCap,.int kq m]).run P w=
  .ok (.slice (some ⟨g,0,none⟩) (sLen+m) sCap) (w.setRow g (cur.toList.take (sLen*i.size)++(Builtin.zeroCells z.cells m).toList++cur.toList.drop (sLen*i.size+(Builtin.zeroCells z.cells m).toList.length)).toArray):=by
 have hk:m ≠ 0:=by omega
 have hw:i64.wrap (m:Int)=m:=by rw[IntKind.wrap_i64];omega
 have hneg : ¬ ((m:Int)<0):=by omega
 have hns : ¬ (m*i.size=0):=Nat.mul_ne_zero hk (by omega)
 have h48i : ¬ (281474976710656<(m:Int)*(i.bytes:Int)):=by
  rw[← Int.natCast_mul]
  omega
 have hst:=run_storeCells_at P g (sLen*i.size) e (Builtin.zeroCells z.cells m).toList 0 cur w hg (by simpa using hfit) h1
 simp only[Nat.add_zero]at hst
 simp[Builtin.append_,run_underlying ht,run_underlying htn,sizeOf,typeInfo,zeroValue,hi,hz,asInt,asIntOf,hw,hneg,hns,h48i,hk,hroom,Addr.add_lit]at hst ⊢
 rw[hst];rfl
theorem zgA{t tn ty e:TypeId}{i:TypeInfo}{z:Value}{kq kn:IntKind}{size:Nat}(ht:P.underlying t=some (.slice e))(htn:P.underlying tn=some (.int kn))(hi:P.info? e=some i)(hz:i.zero=some z)(hsize:i.size=size)(hzs:z.cells.size=size)(hsz:0<size)
 {v:Value} {n:Nat} {xs:List Value} (hown:w.ownsRow 0 e size v n xs) {m:Nat} (h0:0<m) (h1 : ∀ u ∈ (Builtin.zeroCells z.cells m).toList,u.oneCell'=true) (h63:n+m<=maxLen) (hbytes:(n+m)*i.bytes<=140737488355328) :
 ∃ v' w',(Builtin.append_ #[t,tn] ty #[v,.int kq m]).run P w=.ok v' w'/\w'.ownsRow 0 e size v' (n+m) (xs++(Builtin.zeroCells z.cells m).toList)/\w.grownBy w' v.ownBlock/\(v'.ownBlock=v.ownBlock ∨ v'.ownBlock=some w.heap.size):=by
 subst hsize
 have hzl:(Builtin.zeroCells z.cells m).toList.length=m*i.size:=by rw[Array.length_toList,size_zeroCells,hzs]
 have hm48:m*i.bytes<=281474976710656:=by have:=Nat.mul_le_mul_right i.bytes (show m<=n+m by omega);omega
 have hm63:(m:Int)<=9223372036854775807:=by simp only[maxLen]at h63;omega
 have hlen:(xs++(Builtin.zeroCells z.cells m).toList).length=(n+m)*i.size:=by rw[List.length_append,hown.1,hzl,Nat.add_mul]
 have grown : ∀ (old:Nat),∀ (row:Option Nat),
  (w.drew.alloc (.cells (xs.toArray++Builtin.zeroCells z.cells m++Builtin.zeroCells z.cells (grownCap w (n+m) old e-(n+m))) e)).ownsRow 0 e i.size
   (.slice (some ⟨w.heap.size,0,none⟩) (n+m) (grownCap w (n+m) old e)) (n+m) (xs++(Builtin.zeroCells z.cells m).toList)/\
  w.grownBy (w.drew.alloc (.cells (xs.toArray++Builtin.zeroCells z.cells m++Builtin.zeroCells z.cells (grownCap w (n+m) old e-(n+m))) e)) row:=by
  intro old row
  have hge:=grownCap_ge w (n+m) old e
  have hcm:grownCap w (n+m) old e<=maxLen:=grownCap_le_maxLen w (n+m) old e h63
  refine⟨⟨hlen,.inr ⟨w.heap.size,_,_,rfl,Nat.zero_le _,heap_alloc_new w.drew _,hge,hcm,?_,?_⟩⟩,⟨rfl,rfl,rfl,by simp,fun k hk _=>Go.heap_alloc_old w.drew _ hk⟩⟩
  . simp only[Array.size_append,List.size_toArray,size_zeroCells,hzs,hown.1,← Nat.add_mul]
    congr 1
    omega
  . simp only[Array.toList_append,List.append_assoc]
    rw[← List.append_assoc,← hlen]
    exact List.take_left
 rcases hown.2 with ⟨rfl,rfl⟩ | ⟨g,cap,cur,rfl,hbg,hg,hnc,hcm,hcs,htake⟩
 . have hx:xs=[]:=List.eq_nil_of_length_eq_zero (by simpa using hown.1)
   subst hx
   have hr:=Go.Lib.run_append_nil_zeros (P:=P) w t tn ty e i z kq kn ht htn hi hz m h0 hsz hm63 hm48
   have hgr:=grown 0 (Value.ownBlock (.slice none 0 0))
   simp only[Nat.zero_add,List.nil_append,Array.empty_append]at hgr ⊢
   exact⟨_,_,hr,hgr.1,hgr.2,Or.inr rfl⟩
 . by_cases hroom:n+m<=cap
   . have hfit:n*i.size+(Builtin.zeroCells z.cells m).toList.length<=cur.size:=by rw[hzl,hcs,← Nat.add_mul];exact Nat.mul_le_mul_right _ hroom
     have hr:=zf6 (P:=P) (w:=w) t tn ty e i z kq kn ht htn hi hz g n cap cur hg m h0 hsz hm63 hm48 h1 hroom hfit
     refine⟨_,_,hr,⟨hlen,.inr ⟨g,cap,_,rfl,hbg,setRow_heap w g cur _ e _ hg,hroom,hcm,?_,?_⟩⟩,⟨rfl,rfl,rfl,by simp,fun k _ hk=>setRow_other w g k _ (fun e=>hk (by simp[Value.ownBlock,e]))⟩,Or.inl rfl⟩
     . simp only[List.size_toArray,List.length_append,List.length_take,List.length_drop,Array.length_toList]
       rw[Array.length_toList]at hfit
       omega
     . rw[htake,← hlen]
       exact List.take_left
   . have holds : ∀ j u,xs[j]?=some u->w.cell? ((⟨g,0,none⟩:Addr).add j)=some u:=hown.cells (g:=g) rfl
     have hfo:=run_firstCells_some (P:=P) w.drew i.size n ⟨g,0,none⟩ n cap xs hown.1 (by simpa using holds)
     have hr:=Go.Lib.run_append_grow_zeros (P:=P) w t tn ty e i z kq kn ht htn hi hz (some ⟨g,0,none⟩) n cap xs hfo m h0 hsz (by omega) (by simp only[maxLen]at h63;omega) hm48 (growslice_fits (by omega) hbytes)
     have hgr:=grown cap (Value.ownBlock (.slice (some ⟨g,0,none⟩) n cap))
     exact⟨_,_,hr,hgr.1,hgr.2,Or.inr rfl⟩
def tr(β:Gh)(b k p:Nat):Option (Nat × Nat):=
 match β.o p with
 | some (c,some (i,j))=>if c=b then some (k+i,j)else none
 | _=>none
theorem zEp{b k p:Nat}{s:Nat × Nat}(h:tr β b k p=some s) : ∃ i,β.o p=some (b,some (i,s.2))/\s.1=k+i:=by
 unfold tr at h
 split at h
 . rename_i c i j hq
   split at h
   . rename_i hc
     subst hc
     simp at h;subst h
     exact⟨i,hq,rfl⟩
   . cases h
 . cases h
theorem zRa{b k p i j:Nat}(h:β.o p=some (b,some (i,j))):tr β b k p=some (k+i,j):=by
 unfold tr;rw[h];simp
theorem CellOk.cellT{b i j k:Nat}{cols:List (Nat × TypeId)}{T:Nat->Option (Nat × Nat)}{x:AV}{v:Value}(h:CellOk F w β b cols [] i j x v)(hT : ∀ p,β.o p=some (b,some (i,j))->T p=some (k,j)):CellT F w T cols k j x v:=by
 unfold CellOk at h
 unfold CellT
 cases hc:zaA cols j with
 | none=>rw[hc]at h;exact h
 | some e=>
  rw[hc]at h
  rcases h.2 with h | ⟨t,ys,Vs,h1,h2,h3,h4,h5⟩
  . exact(zoT h).elim
  . exact⟨t,ys,Vs,h1,h2,h3,fun p hp=>hT p (h4 p hp),h5⟩
theorem CellT.imp{i j:Nat}{cols:List (Nat × TypeId)}{T T':Nat->Option (Nat × Nat)}{x:AV}{v:Value}(h:CellT F w T cols i j x v)(hT : ∀ p s,T p=some s->T' p=some s):CellT F w T' cols i j x v:=by
 unfold CellT at h ⊢
 cases hc:zaA cols j with
 | none=>rw[hc]at h;exact h
 | some e=>
  rw[hc]at h
  obtain ⟨t,ys,Vs,h1,h2,h3,h4,h5⟩:=h
  exact⟨t,ys,Vs,h1,h2,h3,fun p hp=>hT p _ (h4 p hp),h5⟩
structure zGR(B:Bs)(F:Nat->Prop)(β:Gh)(st st1:St)(a:Act)(w:World)(e:TypeId)(ty:Ty)(cols:List (Nat × TypeId))(v:Value)(k:Nat)(xs:List ty.T)(Vs:List Value)(T:Nat->Option (Nat × Nat)):Prop where
 own:w.ownsRow 0 e ty.sz v xs.length Vs
 rel:Rel B F β st1 a w
 al:Al st st1
 dp:st1.dp=st.dp
 sep : ∀ p,v.ownBlock=some p->(B.M p ∨ B.w.heap.size<=p)/\¬ F p/\∀ b k s',st1.heap[b]?=some k->β.o p=some (b,s')->k=.dead
 tr : ∀ p s',T p=some s'->v.ownBlock ≠ some p/\∃ b s2,β.o p=some (b,s2)/\(∀ k,st1.heap[b]?=some k->k=Blk.dead)/\∃ k,st.heap[b]?=some k/\k ≠ Blk.dead
 sepo : ∀ p b s',v.ownBlock=some p->β.o p=some (b,s')->∃ k,st.heap[b]?=some k/\k ≠ Blk.dead
 cell : ∀ i j,i<xs.length->j<ty.sz->CellT F w T cols (k+i) j ((ty.enc (nth xs i)).getD j .undef) (Vs.getD (i*ty.sz+j) undef)
 whole : ∀ i j,i<xs.length->j<ty.sz->D (fun _=>True) w ((ty.enc (nth xs i)).getD j .undef) (Vs.getD (i*ty.sz+j) undef)
 keep : ∀ (b:Nat) (k:Blk),st1.heap[b]?=some k->k ≠ Blk.dead->st.heap[b]?=some k
theorem znS(h:Rel B F β st a w){b:Nat}{e:TypeId}{ty:Ty}{cols:List (Nat × TypeId)}{xs:List ty.T}(hb:st.heap[b]?=some (.row e ty cols [] xs))(k:Nat) :
 ∃ Vs T,zGR B F β st { st with heap:=st.heap.set b .dead } a w e ty cols (β.v b) k xs Vs T:=by
 obtain ⟨Vs,g1,g2,g3,g4⟩:=h.heap.blk b _ hb
 have hgone : ∀ kc,(st.heap.set b .dead)[b]?=some kc->kc=.dead:=fun kc hc=>zT hc
 refine⟨Vs,Go.Proofs.YtgajeebphoiphaaGreatDoor.tr β b k,g1,h.kill b,⟨rfl,rfl,by simp⟩,rfl,fun p hp=>?_,fun p s' hp=>?_,fun p c s' hp hpc=>?_,fun i j hi hj=>(g4 i j hi hj).cellT fun p hp=>zRa hp,fun i j hi hj=>(g4 i j hi hj).whole (fun _ _=>trivial) (fun _ _ _=>trivial),fun c kc hc hd=>?_⟩
 . have hp':=g3 p hp
   refine⟨h.lo p _ hp',h.heap.sep p _ hp',fun c kc s' hc hpc=>?_⟩
   rw[hp']at hpc
   simp at hpc
   obtain ⟨rfl,_⟩:=hpc
   exact hgone kc hc
 . obtain ⟨i,h1,h2⟩:=zEp hp
   refine⟨fun hv=>?_,b,_,h1,hgone,_,hb,fun e=>by cases e⟩
   have:=g3 p hv
   rw[h1]at this
   cases this
 . have hp':=g3 p hp
   rw[hp']at hpc
   simp at hpc
   obtain ⟨rfl,_⟩:=hpc
   exact⟨_,hb,fun e=>by cases e⟩
 . by_cases hcb:c=b
   . subst hcb;exact absurd (hgone kc hc) hd
   . exact zak hcb hc
theorem zhP(h:Rel B F β st a w){e:TypeId}{ty:Ty}{cols:List (Nat × TypeId)}{s:Operand}{xs:List ty.T}{st1:St}(h1:st.base e ty cols (st.ev s)=some (xs,st1)) :
 ∃ Vs T,zGR B F β st st1 a w e ty cols (a.eval s) 0 xs Vs T:=by
 have hv:=h.ev s
 unfold St.base at h1
 split at h1
 . rename_i b hse
   rw[hse]at hv
   obtain ⟨_,hvy,_⟩:=zdw hv
   split at h1
   . rename_i e' t' cols' xs' hb'
     split at h1
     . rename_i xs1 he hx
       simp at h1;obtain ⟨rfl,rfl⟩:=h1
       simp only[Bool.and_eq_true]at he
       have he':e'=e:=Nat.eq_of_beq_eq_true he.1
       subst he'
       have:=zjT he.2
       subst this
       unfold zfa at hx
       split at hx
       . rename_i e1 _
         subst e1
         simp at hx;subst hx
         rw[hvy]
         exact znS h hb' 0
       . cases hx
     . cases h1
   . cases h1
 . rename_i hse
   rw[hse]at hv
   simp at h1;obtain ⟨rfl,rfl⟩:=h1
   rw[V_v hv]
   exact⟨[],fun _=>none,World.ownsRow_nil w _ e ty.sz,h,.refl _,rfl,fun p hp=>(by simp[Value.ownBlock]at hp),fun p s' hp=>(by cases hp),fun p b s' hp=>(by simp[Value.ownBlock]at hp),fun i j hi=>(by simp at hi),fun i j hi=>(by simp at hi),fun _ _ h _=>h⟩
 . cases h1
theorem zuO (h:Rel B F β st a w) {e:TypeId} {ty:Ty} {cols:List (Nat × TypeId)} {s:Operand} {xs:List ty.T} {st1:St} {x:AV} (hxv:V F w β x (a.eval s)) (h1:st.srcD e ty cols x=some (xs,st1)) (k:Nat) :
 ∃ Vs T,zGR B F β st st1 a w e ty cols (a.eval s) k xs Vs T:=by
 cases x with
 | own b=>
  obtain ⟨_,hvy,_⟩:=zdw hxv
  simp only[St.srcD]at h1
  split at h1
  . rename_i e' t' cols' xs' hb'
    split at h1
    . rename_i xs1 he hx
      simp at h1;obtain ⟨rfl,rfl⟩:=h1
      simp only[Bool.and_eq_true]at he
      have he':e'=e:=Nat.eq_of_beq_eq_true he.1
      subst he'
      have:=zjT he.2
      subst this
      unfold zfa at hx
      split at hx
      . rename_i e1 _
        subst e1
        simp at hx;subst hx
        rw[hvy]
        exact znS h hb' k
      . cases hx
    . cases h1
  . cases h1
 | _=>cases h1
theorem zmE{w:World}{e:TypeId}{sz n:Nat}{v:Value}{Ws:List Value}(g1:w.ownsRow 0 e sz v n Ws) : ∃ (A:Option Addr) (c:Nat),v=.slice A n c/\(A=none->n=0)/\∀ ad,A=some ad->∀ j u,Ws[j]?=some u->w.cell? (ad.add j)=some u:=by
 obtain ⟨A,c,hA⟩:=zh5 g1
 refine⟨A,c,hA,fun hA0=>?_,fun ad hA1 j u hj=>?_⟩
 . rcases g1.2 with ⟨_,h0⟩ | ⟨g,cap,cur,hv',_⟩
   . exact h0
   . rw[hA,hA0]at hv';cases hv'
 . rcases g1.2 with ⟨hv',_⟩ | ⟨g,cap,cur,hv',_⟩
   . rw[hA,hA1]at hv';cases hv'
   . obtain ⟨_,hcell⟩:=zcf g1 hv'
     rw[hA,hA1]at hv'
     cases hv'
     have hjl:j<n*sz:=by rw[← g1.1];exact(List.getElem?_eq_some_iff.1 hj).1
     rw[add_lit,Nat.zero_add,hcell j hjl,List.getD_eq_getElem?_getD,hj]
     rfl
theorem ziZ{ty:Ty}{ys:List ty.T}{news:List Value}(hnl:news.length=ys.length*ty.sz){F':Nat->Prop}(hD2 : ∀ i j,i<ys.length->j<ty.sz->D F' w ((ty.enc (nth ys i)).getD j .undef) (news.getD (i*ty.sz+j) undef)) : ∀ u ∈ news,u.oneCell'=true:=fun u hu=>by
 obtain ⟨k,hk',rfl⟩:=List.getElem_of_mem hu
 have hsp:=zbw ty
 have hkl:k<ys.length*ty.sz:=by omega
 have hq:k / ty.sz<ys.length:=Nat.div_lt_of_lt_mul (by rw[Nat.mul_comm];exact hkl)
 have:=zvp (β:=Gh.nil) (Nat.mod_lt k hsp) (hD2 (k / ty.sz) (k % ty.sz) hq (Nat.mod_lt k hsp))
 rw[Nat.mul_comm,Nat.div_add_mod,List.getD_eq_getElem?_getD,List.getElem?_eq_getElem hk']at this
 exact this
theorem ztP(h:Rel B F β st a w){o:Oper}{t e:TypeId}{s x:Operand}(hop:o.op=.call { callee:=.builtin .append,args:=#[s,x],argTypes:=#[t,t] })(hu:P.underlying t=some (.slice e)){ty:Ty}{i:TypeInfo}
 (hi:P.info? e=some i) (hs:i.size=ty.sz) (hb:0<i.bytes) {zv:Value} (hzv:i.zero=some zv) (hzs:zv.cells.size=ty.sz) {cols:List (Nat × TypeId)} {xs ys:List ty.T} {st1 st2:St} (h1:st.base e ty cols (st.ev s)=some (xs,st1)) (h2:st1.srcD e ty cols (st.ev x)=some (ys,st2))
 (hle:(xs.length+ys.length)*i.bytes<=140737488355328) {next:Act->World->Prop} {Q:Exit->Act->World->Prop}
 (hk : ∀ u w' β',Rel B F β' (st2.push (.row e ty cols [] (xs++ys)) o.dst) (a.put o.dst u) w'->Al st st2->next (a.put o.dst u) w'):o.wp P a w next Q:=by
 obtain ⟨Vs,T1,u1⟩:=zhP h h1
 obtain ⟨Ws,T2,u2⟩:=zuO u1.rel (s:=x) (h.ev x) h2 xs.length
 obtain ⟨A,c,hx,hA0,hA1⟩:=zmE u2.own
 have dd : ∀ (b:Nat),(∀ k:Blk,st1.heap[b]?=some k->k=Blk.dead)->∀ k:Blk,st2.heap[b]?=some k->k=Blk.dead:=fun b hb1 k hk2=>by
  by_cases hd:k=Blk.dead
  . exact hd
  . exact hb1 k (u2.keep b k hk2 hd)
 refine zrD (hR2:=u2.rel) hop hu hi hs hb hzv hzs u1.own (fun p hp=>?_) hx u2.own.1 hA0 hA1 (ziZ u2.own.1 u2.whole) hle (fun p=>match T1 p with | some s=>some s | none=>T2 p) (fun p s' hp=>?_) (fun i j hi hj=>?_) (fun i j hi hj=>?_) (fun u w' β' hR=>hk u w' β' hR (u1.al.trans u2.al))
 . obtain ⟨q1,q2,q3⟩:=u1.sep p hp
   exact⟨q1,q2,fun b k s' hk2 ho=>dd b (fun k hk1=>q3 b k s' hk1 ho) k hk2⟩
 . cases hq:T1 p with
   | some s1=>
    obtain ⟨q1,b,s2,q2,q3,_⟩:=u1.tr p s1 hq
    exact⟨q1,b,s2,q2,dd b q3⟩
   | none=>
    simp only[hq]at hp
    obtain ⟨q1,b,s2,q2,q3,k,q4,q5⟩:=u2.tr p s' hp
    refine⟨fun hv=>?_,b,s2,q2,q3⟩
    exact q5 ((u1.sep p hv).2.2 b k s2 q4 q2)
 . have:=u1.cell i j hi hj
   rw[Nat.zero_add]at this
   exact this.imp fun p s' hp=>by simp only[hp]
 . refine(u2.cell i j hi hj).imp fun p s' hp=>?_
   cases hq:T1 p with
   | none=>simp only[hp]
   | some s1=>
    exfalso
    obtain ⟨_,b,s2,q2,q3,_⟩:=u1.tr p s1 hq
    obtain ⟨_,b',s2',q2',_,k,q4,q5⟩:=u2.tr p s' hp
    rw[q2]at q2'
    simp at q2'
    obtain ⟨rfl,_⟩:=q2'
    exact q5 (q3 k q4)
theorem zxs (h:Rel B F β st a w) {o:Oper} {t e:TypeId} {s x:Operand} (hop:o.op=.call { callee:=.builtin .append,args:=#[s,x],argTypes:=#[t,t] }) (hu:P.underlying t=some (.slice e)) {ty:Ty} {i:TypeInfo}
 (hi:P.info? e=some i) (hs:i.size=ty.sz) (hb:0<i.bytes) {zv:Value} (hzv:i.zero=some zv) (hzs:zv.cells.size=ty.sz) {xs ys:List ty.T} {st1:St} (h1:st.base e ty [] (st.ev s)=some (xs,st1)) (h2:st1.src ty (st.ev x)=some ys)
 (hle:(xs.length+ys.length)*i.bytes<=140737488355328) {next:Act->World->Prop} {Q:Exit->Act->World->Prop}
 (hk : ∀ u w' β',Rel B F β' (st1.push (.row e ty [] [] (xs++ys)) o.dst) (a.put o.dst u) w'->Al st st1->next (a.put o.dst u) w'):o.wp P a w next Q:=by
 obtain ⟨Vs,T1,u1⟩:=zhP h h1
 have hR1:=u1.rel
 -- what is read
 have hsrc : ∃ (A:Option Addr) (c:Nat) (news:List Value),a.eval x=.slice A ys.length c/\news.length=ys.length*ty.sz/\(A=none->ys.length=0)/\(∀ ad,A=some ad->∀ j u,news[j]?=some u->w.cell? (ad.add j)=some u)/\
  (∀ i j,i<ys.length->j<ty.sz->D F w ((ty.enc (nth ys i)).getD j .undef) (news.getD (i*ty.sz+j) undef)):=by
  have hv:V F w β (st.ev x) (a.eval x):=h.ev x
  have fromD : ∀ v,D F w (.sl ty ys) v->∃ (A:Option Addr) (c:Nat) (news:List Value),v=.slice A ys.length c/\news.length=ys.length*ty.sz/\(A=none->ys.length=0)/\(∀ ad,A=some ad->∀ j u,news[j]?=some u->w.cell? (ad.add j)=some u)/\
   (∀ i j,i<ys.length->j<ty.sz->D F w ((ty.enc (nth ys i)).getD j .undef) (news.getD (i*ty.sz+j) undef)):=by
   intro v hd
   cases hd with
   | sl0 _ A c=>exact⟨A,c,[],rfl,by simp,fun _=>rfl,fun ad _ j u hj=>by simp at hj,fun i j hi=>by simp at hi⟩
   | sl _ _ b o c Y hF hb' hl hcap hc hd=>
    refine⟨_,c,(List.range (ys.length*ty.sz)).map fun k=>Y (k / ty.sz) (k % ty.sz),rfl,by simp,(fun hA=>by cases hA),fun ad hA j u hj=>?_,fun i j hi' hj=>?_⟩
    . cases hA
      have hjl:j<ys.length*ty.sz:=by
       have:=(List.getElem?_eq_some_iff.1 hj).1
       simpa using this
      simp[hjl]at hj
      subst hj
      rw[add_lit]
      have:=hc (j / ty.sz) (j % ty.sz) (Nat.div_lt_of_lt_mul (by rw[Nat.mul_comm];exact hjl)) (Nat.mod_lt _ (zbw ty))
      rw[Nat.mul_comm,Nat.div_add_mod]at this
      exact this
    . have hij:=zb0 hi' hj
      have e1:((List.range (ys.length*ty.sz)).map fun k=>Y (k / ty.sz) (k % ty.sz)).getD (i*ty.sz+j) undef=Y i j:=by
       have hd1:(i*ty.sz+j) / ty.sz=i:=by rw[Nat.mul_comm,Nat.mul_add_div (zbw ty),Nat.div_eq_of_lt hj];rfl
       have hd2:(i*ty.sz+j) % ty.sz=j:=by rw[Nat.mul_comm,Nat.mul_add_mod,Nat.mod_eq_of_lt hj]
       simp[List.getD,hij,hd1,hd2]
      rw[e1]
      exact hd i j hi' hj
  unfold St.src at h2
  split at h2
  . rename_i t' xs' hxe
    rw[hxe]at hv
    unfold zfa at h2
    split at h2
    . rename_i e1 _
      subst e1
      simp at h2;subst h2
      exact fromD _ (sl_D hv)
    . cases h2
  . rename_i b hxe
    rw[hxe]at hv
    obtain ⟨_,hvy,_⟩:=zdw hv
    split at h2
    . rename_i e' t' xs' hb'
      unfold zfa at h2
      split at h2
      . rename_i e1 _
        subst e1
        simp at h2;subst h2
        obtain ⟨Ws,g1,g2,_,g3⟩:=hR1.heap.blk b _ hb'
        obtain ⟨A,c,hA,hA0,hA1⟩:=zmE g1
        exact⟨A,c,Ws,by rw[hvy,hA],g1.1,hA0,hA1,fun i j hi hj=>(g3 i j hi hj).toD rfl⟩
      . cases h2
    . rename_i t' xs' hb'
      unfold zfa at h2
      split at h2
      . rename_i e1 _
        subst e1
        simp at h2;subst h2
        rw[hvy]
        exact fromD _ (hR1.heap.blk b _ hb')
      . cases h2
    . cases h2
  . rename_i c hxe
    rw[hxe]at hv
    simp at h2;subst h2
    rw[V_v hv]
    exact fromD _ (.sl0 ty _ c)
  . cases h2
 obtain ⟨A,c,news,hx,hnl,hA0,hA1,hD2⟩:=hsrc
 refine zrD (cols:=[]) (hR2:=hR1) hop hu hi hs hb hzv hzs u1.own u1.sep hx hnl hA0 hA1 (ziZ hnl hD2) hle (fun _=>none) (fun p s' hp=>by cases hp) (fun i j hi hj=>?_) (fun i j hi hj=>hD2 i j hi hj) (fun u w' β' hR=>hk u w' β' hR u1.al)
 have:=u1.cell i j hi hj
 exact this
theorem zoS : ∀ {cols:List (Nat × TypeId)} {off n j:Nat},zmA cols off n=true->off<=j->j<off+n->zaA cols j=none
 | [],off,n,j,_,_,_=>rfl
 | (c,e) :: r,off,n,j,h,h1,h2=>by
  simp only[zmA]at h
  split at h
  . rename_i hc
    simp only[Bool.or_eq_true]at hc
    simp only[zaA]
    have:Nat.beq c j=false:=by
     cases hb:Nat.beq c j with
     | false=>rfl
     | true=>
      have:=Nat.eq_of_beq_eq_true hb
      subst this
      rcases hc with hc | hc
      . have:c<off:=by simpa using hc
        omega
      . have:=Nat.le_of_ble_eq_true hc
        omega
    rw[this]
    exact zoS h h1 h2
  . cases h
theorem CellOk.fit{b i j:Nat}{cols:List (Nat × TypeId)}{hole:zbI}{x x':AV}{v:Value}(h:CellOk F w β b cols hole i j x v)(h1:kp x x')(h2 : ∀ y,D F w x y->D F w x' y):CellOk F w β b cols hole i j x' v:=by
 unfold CellOk at h ⊢
 cases hc:zaA cols j with
 | none=>rw[hc]at h;exact h2 _ h
 | some e=>
  rw[hc]at h
  obtain ⟨h0,h⟩:=h
  refine⟨h0,?_⟩
  rcases h with h | ⟨t,ys,Vs,rfl,h⟩
  . exact .inl h
  . exact .inr ⟨t,ys,Vs,h1.1 _ _ rfl,h⟩
theorem zo3{w:World}{e:TypeId}{sz N:Nat}{v:Value}{Vs:List Value}(hown:w.ownsRow 0 e sz v N Vs){p n c:Nat}(hv:v=.slice (some ⟨p,0,none⟩) n c){i off:Nat}(hi:i<N){vs:List Value}(hf:off+vs.length<=sz)(hone : ∀ u ∈ vs,u.oneCell'=true)(P:Program) :
 ∃ w' Us,(storeCells ⟨p,i*sz+off,none⟩ vs).run P w=.ok () w'/\w'.os=w.os/\w'.tape=w.tape/\w'.output=w.output/\w'.heap.size=w.heap.size/\(∀ k,k ≠ p->w'.heap[k]?=w.heap[k]?)/\w'.ownsRow 0 e sz v N Us/\
  ∀ i' j,i'<N->j<sz->Us.getD (i'*sz+j) undef=if i'=i/\off<=j/\j<off+vs.length then vs.getD (j-off) undef else Vs.getD (i'*sz+j) undef:=by
 rcases hown.2 with ⟨hvn,_⟩ | ⟨g,cap,cur,hvg,hg,hh,hnc,hcm,hcs,htk⟩
 . rw[hv]at hvn;cases hvn
 rw[hv]at hvg
 simp only[Value.slice.injEq,Option.some.injEq,Addr.mk.injEq,true_and,and_true]at hvg
 obtain ⟨rfl,rfl,rfl⟩:=hvg
 have hfit:i*sz+sz<=n*sz:=by rw[← Nat.succ_mul];exact Nat.mul_le_mul_right _ hi
 have hcapl:n*sz<=c*sz:=Nat.mul_le_mul_right _ hnc
 have hrun:=run_storeCells_at P p (i*sz+off) e vs 0 cur w hh (by omega) hone
 simp only[Nat.add_zero]at hrun
 generalize hw':w.setRow p _=w' at hrun
 have hrow:w'.heap[p]?=some (.cells (cur.toList.take (i*sz+off)++vs++cur.toList.drop (i*sz+off+vs.length)).toArray e (0,0)):=by rw[← hw'];exact setRow_heap w _ cur _ e _ hh
 refine⟨w',(cur.toList.take (i*sz+off)++vs++cur.toList.drop (i*sz+off+vs.length)).take (n*sz),hrun,by rw[← hw'];rfl,by rw[← hw'];rfl,by rw[← hw'];rfl,by rw[← hw'];simp,fun k hk=>by rw[← hw'];exact setRow_other w _ k _ hk,?_,fun i' j hi' hj=>?_⟩
 . rw[hv]
   refine⟨by simp;omega,.inr ⟨p,c,_,rfl,hg,hrow,hnc,hcm,by simp;omega,by simp⟩⟩
 . have hij:=zb0 hi' hj
   have e0:((cur.toList.take (i*sz+off)++vs++cur.toList.drop (i*sz+off+vs.length)).take (n*sz)).getD (i'*sz+j) undef=
    if i*sz+off<=i'*sz+j/\i'*sz+j<i*sz+off+vs.length then vs.getD (i'*sz+j-(i*sz+off)) undef else Vs.getD (i'*sz+j) undef:=by
    rw[← htk]
    have:=zjB (l:=cur.toList) (vs:=vs) (o:=i*sz+off) (by simp;omega) (i'*sz+j) undef
    simp only[List.getD,List.getElem?_take,if_pos hij]at this ⊢
    exact this
   rw[e0]
   by_cases hii:i'=i
   . subst hii
     by_cases hr:off<=j/\j<off+vs.length
     . rw[if_pos (by omega),if_pos ⟨rfl,hr⟩,show i'*sz+j-(i'*sz+off)=j-off by omega]
     . rw[if_neg (by omega),if_neg (fun h=>hr h.2)]
   . rw[if_neg,if_neg (fun h=>hii h.1)]
     rintro ⟨q1,q2⟩
     rcases Nat.lt_or_gt_of_ne hii with hlt | hgt
     . have:=Nat.mul_le_mul_right sz (Nat.succ_le_of_lt hlt)
       rw[Nat.succ_mul]at this
       omega
     . have:=Nat.mul_le_mul_right sz (Nat.succ_le_of_lt hgt)
       rw[Nat.succ_mul]at this
       omega
theorem zkD{o:Oper}{t:TypeId}{ad x:Operand}(hop:o.op=.store t ad x){n:Nat}(hn:n=P.cellsOf t)(hpos:0<n)(hx:(a.eval x).cells.size=n){p q:Nat}(hp:a.eval ad=.pointer (some ⟨p,q,none⟩)){w':World}
 (hrun:(storeCells ⟨p,q,none⟩ (a.eval x).cells.toList).run P w=.ok () w'):(execOp a.eval o).run P w=.ok .skip w':=by
 obtain ⟨it,hit,ziO⟩:=zcY hn.symm hpos
 have hg1':(a.eval x).cells.size=it.size:=by rw[hx,ziO]
 simp[execOp,hop,hp,Instr.storeAt,Instr.sureAddr,storeVar,Sem.run_bind,zaP hit w,hg1']at hrun ⊢
 simp[hrun]
theorem zoR : ∀ {cols:List (Nat × TypeId)} {off j:Nat} {L:List AV} {e:TypeId},zoQ cols off L=true->zaA cols j=some e->off<=j->j<off+L.length->zbc (L.getD (j-off) .undef)=true
 | [],off,j,L,e,_,hc,_,_=>by simp[zaA]at hc
 | (c,e') :: r,off,j,L,e,h,hc,h1,h2=>by
  simp only[zoQ]at h
  split at h
  . rename_i hq
    simp only[zaA]at hc
    split at hc
    . rename_i hb
      have:=Nat.eq_of_beq_eq_true hb
      subst this
      simp only[Bool.or_eq_true]at hq
      rcases hq with (hq | hq) | hq
      . have:c<off:=by simpa using hq
        omega
      . have:=Nat.le_of_ble_eq_true hq
        omega
      . exact hq
    . exact zoR h hc h1 h2
  . cases h
theorem zsj{n:Nat} : ∀ {l l':List AV} {st st1:St} {j:Nat},ziX (St.frzD (n+1)) st l=some (l',st1)->zbc (l.getD j .undef)=true->l'.getD j .undef=l.getD j .undef
 | [],l',st,st1,j,_,hn=>by simp[zbc]at hn
 | c :: cs,l',st,st1,j,h,hn=>by
  simp only[ziX]at h
  split at h
  . rename_i y st2 hy
    split at h
    . rename_i ys st3 hys
      simp at h;obtain ⟨rfl,rfl⟩:=h
      cases j with
      | zero=>
       have hn':zbc c=true:=by simpa using hn
       unfold zbc at hn'
       split at hn'
       . simp[St.frzD]at hy
         simpa using hy.1.symm
       . cases hn'
      | succ j=>simpa using zsj (j:=j) hys (by simpa using hn)
    . cases h
  . cases h
theorem zAG{st st1:St}{l l':List AV}{j:Nat}(h:st.frzs l=some (l',st1))(hn:zbc (l.getD j .undef)=true):l'.getD j .undef=l.getD j .undef:=zsj h hn
theorem zob(h:Rel B F β st a w){o:Oper}{t e:TypeId}{ad x:Operand}(hop:o.op=.store t ad x){b sz i off:Nat}(hb:st.ev ad=.oel b sz i off){L zs cs':List AV}(hne:L ≠ [])(hL:(st.ev x).cells=some L){ty:Ty}{cols:List (Nat × TypeId)}{hole:zbI}{ys:List ty.T}(hr:st.heap[b]?=some (.row e ty cols hole ys))
 (hsz:L.length=P.cellsOf t) (hs:ty.sz=sz) (hnc:zmA cols off L.length=true ∨ (zoQ cols off L=true/\hole=[])) {st1:St} (hz:st.frzs L=some (zs,st1)) {e2:TypeId} {t2:Ty} {cols2:List (Nat × TypeId)} {hole2:zbI} {ys2:List t2.T} (hr1:st1.heap[b]?=some (.row e2 t2 cols2 hole2 ys2)) (hw:wr (ty.enc (nth ys i)) off zs=some cs') {y:ty.T} (hd:ty.dec cs'=some y) {next:Act->World->Prop} {Q:Exit->Act->World->Prop}
 (hk : ∀ u w' F' β',Rel B F' β' (({ st1 with heap:=st1.heap.set b (.row e ty cols hole (ys.set i y)) }:St).put o.dst .undef) (a.put o.dst u) w'->Al st st1->next (a.put o.dst u) w'):o.wp P a w next Q:=by
 have hv:=h.ev ad;rw[hb]at hv
 obtain ⟨p,n,c,hbm,hvb,hin,hp⟩:=zlW hv
 obtain ⟨F1,β1,z1,zl,zd⟩:=zme h hz
 have hr1':st1.heap[b]?=some (.row e ty cols hole ys):=by
  have:=z1.arr _ _ _ _ _ _ hr1
  rw[hr]at this
  rw[hr1];exact this.symm
 clear hr1
 obtain ⟨Vs,hown,hlen,hob,hD⟩:=z1.rel.heap.blk b _ hr1'
 have hvb:β1.v b=.slice (some ⟨p,0,none⟩) n c:=by rw[z1.v];exact hvb
 obtain ⟨hnl,_⟩:=zcf hown hvb
 obtain ⟨g1,g2⟩:=zg3 (h.ev x) hL
 obtain ⟨k1,k2,k3⟩:=zd5 hw
 rw[zaj]at k1
 have hzl:zs.length=L.length:=zl
 have hzn:zs ≠ []:=fun e=>hne (List.eq_nil_of_length_eq_zero (by rw[← hzl,e];rfl))
 have k2:off+zs.length<=ty.sz:=by rcases k2 with k2 | k2;exact absurd k2 hzn;rw[zaj]at k2;exact k2
 have hpos:0<L.length:=List.length_pos_iff.2 hne
 let vs:=(a.eval x).cells.toList
 have hvl:vs.length=L.length:=by simpa [vs]using g1
 have hvd : ∀ j,j<L.length->D F1 w (zs.getD j .undef) (vs.getD j undef):=fun j hj=>by
  have:=zd (fun j=>(a.eval x).cells.getD j undef) (fun j hj=>(g2 j hj).1) j hj
  simpa [vs,List.getD,Array.getD_eq_getD_getElem?]using this
 have hone : ∀ v ∈ vs,v.oneCell'=true:=fun v hv=>by
  obtain ⟨j,hj,rfl⟩:=List.getElem_of_mem hv
  have hj':j<(a.eval x).cells.size:=by simpa [vs]using hj
  have:=(g2 j (by omega)).2
  simpa [vs,Array.getD,hj']using this
 subst hs
 obtain ⟨w',Us,hrun,ho1,ho2,ho3,hszw,hbk,hown',hUs⟩:=zo3 hown hvb (i:=i) (off:=off) (by omega) (vs:=vs) (by omega) hone P
 have hpb:β1.o p=some (b,none):=hob p (by simp[hvb,Value.ownBlock])
 have hR1:=z1.rel
 have hlt:=(List.getElem?_eq_some_iff.1 hr1').1
 have hRel:Rel B F1 β1 { st1 with heap:=st1.heap.set b (.row e ty cols hole (ys.set i y)) } a w':=by
  refine hR1.write hlt hpb ho1 ho2 ho3 hszw hbk fun hE=>?_
  refine⟨Us,by rw[List.length_set];exact hown',by simpa using hlen,hob,fun i' j hi' hj=>?_⟩
  have hi'':i'<ys.length:=by simpa using hi'
  rw[hUs i' j hi'' hj]
  have mono : ∀ {x v},CellOk F1 w β1 b cols hole i' j x v->CellOk F1 w' β1 b cols hole i' j x v:=fun h=>h.mono hE (.refl _) fun q hq=>⟨hq,hbk q fun e=>by subst e;rw[hpb]at hq;cases hq⟩
  by_cases hii:i'=i
  . subst hii
    have e1:nth (ys.set i' y) i'=y:=by simp[nth,List.getD,hi'']
    rw[e1]
    have hdf:=(zbm (F:=F1) (w:=w) (β:=Gh.nil) hd).2 j
    have hdk:=zen hd j (by omega)
    have hk3:=k3 j
    by_cases hr:off<=j/\j<off+zs.length
    . rw [if_pos ⟨rfl,by omega⟩]
      rw[if_pos hr]at hk3
      cases hc:zaA cols j with
      | none=>
       refine mono (.data hc (hdf _ (by omega) ?_))
       rw[hk3]
       exact hvd (j-off) (by omega)
      | some e'=>
       rcases hnc with hnc | ⟨hnc,hh⟩
       . rw[zoS hnc hr.1 (by omega)]at hc;cases hc
       . have hnil:=zoR hnc hc hr.1 (by omega)
         have hLz:zs.getD (j-off) .undef=L.getD (j-off) .undef:=zAG hz hnil
         rw[hk3,hLz]at hdk
         obtain ⟨t3,ht3⟩:=hdk.2.1 hnil
         have hv0:vs.getD (j-off) undef=.slice none 0 0:=by
          have:=hvd (j-off) (by omega)
          rw[hLz]at this
          unfold zbc at hnil
          split at hnil
          . rename_i hq;rw[hq]at this;exact V_v this
          . cases hnil
         subst hh
         unfold CellOk
         rw[hc,ht3,hv0]
         exact⟨.nil,.inr ⟨t3,[],[],rfl,World.ownsRow_nil _ _ e' t3.sz,by simp,fun p hp=>by simp[Value.ownBlock]at hp,fun k m hk=>by simp at hk⟩⟩
    . rw[if_neg (fun h=>hr ⟨h.2.1,by omega⟩)]
      rw[if_neg hr]at hk3
      refine mono ((hD i' j hi'' hj).fit (by rw[← hk3];exact hdk) fun u hu=>hdf _ (by omega) ?_)
      rw[hk3];exact hu
  . have e1:nth (ys.set i y) i'=nth ys i':=by simp[nth,List.getD,List.getElem?_set,show ¬ i=i' from fun e=>hii e.symm]
    rw[e1,if_neg (fun h=>hii h.1)]
    exact mono (hD i' j hi'' hj)
 unfold Oper.wp
 rw[zkD hop hsz hpos (by simpa [vs]using hvl) hp hrun,Oper.upon_skip]
 exact hk _ _ _ _ (hRel.put o.dst (.undef _)) z1.al
theorem zgX (h:Rel B F β st a w) {o:Oper} {t e e2:TypeId} {ad x:Operand} (hop:o.op=.store t ad x) {b sz i off n:Nat} (hb:st.ev ad=.oel b sz i off) (hL:(st.ev x).cells=some [.own n]) {cs':List AV} {ty t':Ty} {cols:List (Nat × TypeId)} {ys:List ty.T} {zs:List t'.T}
 {hole hole':zbI} (hh1 : ∀ i' j,(i' ≠ i ∨ j ≠ off)->OutAt hole i' j->OutAt hole' i' j) (hh2 : ∀ p ∈ hole',p ∈ hole/\∀ n,p ≠ (i,off,some n)) (hr:st.heap[b]?=some (.row e ty cols hole ys)) (hn:st.heap[n]?=some (.row e2 t' [] [] zs)) (hnb:n ≠ b) (hc:zaA cols off=some e2) (hsz:1=P.cellsOf t) (hs:ty.sz=sz) (hw:wr (ty.enc (nth ys i)) off [.sl t' zs]=some cs') {y:ty.T} (hd:ty.dec cs'=some y) {next:Act->World->Prop} {Q:Exit->Act->World->Prop}
 (hk : ∀ u w' β',Rel B F β' (({ st with heap:=(st.heap.set n .dead).set b (.row e ty cols hole' (ys.set i y)) }:St).put o.dst .undef) (a.put o.dst u) w'->next (a.put o.dst u) w'):o.wp P a w next Q:=by
 have hv:=h.ev ad;rw[hb]at hv
 obtain ⟨p,N,c,hbm,hvb,hin,hp⟩:=zlW hv
 obtain ⟨g1,g2⟩:=zg3 (h.ev x) hL
 obtain ⟨hnm,hxe,A2,N2,c2,hx2⟩:=zdw (g2 0 (by simp)).1
 obtain ⟨Vs,hown,hlen,hob,hD⟩:=h.heap.blk b _ hr
 obtain ⟨Ws,hown2,hlen2,hob2,hD2⟩:=h.heap.blk n _ hn
 obtain ⟨hnl,_⟩:=zcf hown hvb
 obtain ⟨k1,k2,k3⟩:=zd5 hw
 rw[zaj]at k1
 have k2:off+1<=ty.sz:=by rcases k2 with k2 | k2;cases k2;rw[zaj]at k2;exact k2
 have hxc:(a.eval x).cells=#[β.v n]:=by
  rw[← hxe]
  apply Array.ext
  . simpa using g1
  . intro j h1 h2
    have:j=0:=by simpa using h2
    subst this
    simp[Array.getD,h1]
 subst hs
 obtain ⟨w',Us,hrun,ho1,ho2,ho3,hszw,hbk,hown',hUs⟩:=zo3 hown hvb (i:=i) (off:=off) (by omega) (vs:=[β.v n]) (by simpa using k2) (fun u hu=>by
  have:u=β.v n:=by simpa using hu
  rw[this];rw[hxe]at hx2;rw[hx2];rfl) P
 have hpb:β.o p=some (b,none):=hob p (by simp[hvb,Value.ownBlock])
 let β':Gh:=⟨β.b,β.v,fun q=>match β.o q with | some (k,s)=>if k=n then some (b,some (i,off))else some (k,s) | none=>none,β.l⟩
 have hle:β.Le β':=fun k hk=>⟨hk,rfl,rfl⟩
 have ho : ∀ q κ,β'.o q=some κ->∃ κ',β.o q=some κ':=fun q κ hq=>by
  cases hq2:β.o q with
  | none=>simp only[β',hq2]at hq;cases hq
  | some κ'=>exact⟨κ',rfl⟩
 have hoo : ∀ q k s,k ≠ n->β.o q=some (k,s)->β'.o q=some (k,s):=fun q k s hk hq=>by simp only[β',hq,if_neg hk]
 have hE:Ext F F w w':=⟨by omega,fun q hF hq=>⟨hF,hbk q (fun e=>h.heap.sep p _ hpb (e ▸ hF))⟩⟩
 have hlt:=(List.getElem?_eq_some_iff.1 hr).1
 have hHOk:HOk F w' β' ((st.heap.set n .dead).set b (.row e ty cols hole' (ys.set i y))):=by
  refine⟨fun q hF=>by rw[hszw];exact h.heap.fb q hF,fun k kb hkb=>?_,fun q κ hq=>?_,fun q κ hq=>?_,fun k hk=>by rw[List.length_set,List.length_set];exact h.heap.live k hk⟩
  . by_cases hkb':k=b
    . subst hkb'
      obtain rfl:=zT hkb
      refine⟨Us,by rw[List.length_set];exact hown',by simpa using hlen,fun q hq=>hoo q _ _ (fun e=>hnb e.symm) (hob q hq),fun i' j hi' hj=>?_⟩
      have hi'':i'<ys.length:=by simpa using hi'
      rw[hUs i' j hi'' hj]
      have mono : ∀ {x v},(i' ≠ i ∨ j ≠ off)->CellOk F w β k cols hole i' j x v->CellOk F w' β' k cols hole' i' j x v:=fun {x v} hne hc=>
       hc.turn hE (fun ho n' hn'=>ho n' (hh2 _ hn').1) (hh1 i' j hne) fun q hq=>⟨hoo q _ _ (fun e=>hnb e.symm) hq,hbk q fun e=>by rw[e,hpb]at hq;cases hq⟩
      by_cases hii:i'=i
      . subst hii
        have e1:nth (ys.set i' y) i'=y:=by simp[nth,List.getD,hi'']
        rw[e1]
        have hdf:=(zbm (F:=F) (w:=w) (β:=Gh.nil) hd).2 j
        have hdk:=zen hd j (by omega)
        have hk3:=k3 j
        by_cases hr':j=off
        . subst hr'
          rw[if_pos ⟨rfl,by simp⟩]
          rw[if_pos (by simp)]at hk3
          simp only[Nat.sub_self,List.getD_cons_zero]at hk3 ⊢
          rw[hk3]at hdk
          unfold CellOk
          rw[hc]
          refine⟨fun n' hn'=>absurd rfl ((hh2 _ hn').2 n'),.inr ⟨t',zs,Ws,hdk.1 _ _ rfl,zhg hown2 fun q hq=>hbk q fun e=>?_,hlen2,fun q hq=>?_,fun a' b' ha' hb'=>((hD2 a' b' ha' hb').toD rfl).mono hE⟩⟩
          . have:=hob2 q hq
            rw[e,hpb]at this
            simp at this
            exact hnb this.symm
          . simp only[β',hob2 q hq,if_true]
        . rw[if_neg (fun h=>hr' (by simp at h;omega))]
          rw[if_neg (fun h=>hr' (by simp at h;omega))]at hk3
          refine mono (.inr hr') ((hD i' j hi'' hj).fit (by rw[← hk3];exact hdk) fun u hu=>hdf _ (by omega) ?_)
          rw[hk3];exact hu
      . have e1:nth (ys.set i y) i'=nth ys i':=by simp[nth,List.getD,List.getElem?_set,show ¬ i=i' from fun e=>hii e.symm]
        rw[e1,if_neg (fun h=>hii h.1)]
        exact mono (.inl hii) (hD i' j hi'' hj)
    . have h1:=zak hkb' hkb
      by_cases hkn:k=n
      . subst hkn
        obtain rfl:=zT h1
        trivial
      . have h2:=zak hkn h1
        exact(h.heap.blk k kb h2).mono hE hle ⟨rfl,rfl⟩ fun q s hq=>⟨hoo q _ _ hkn hq,hbk q fun e=>by subst e;rw[hpb]at hq;simp at hq;exact hkb' hq.1.symm⟩
  . obtain ⟨κ',hq'⟩:=ho q κ hq
    rw[hszw];exact h.heap.lt q κ' hq'
  . obtain ⟨κ',hq'⟩:=ho q κ hq
    exact h.heap.sep q κ' hq'
 have hRel:Rel B F β' { st with heap:=(st.heap.set n .dead).set b (.row e ty cols hole' (ys.set i y)) } a w':=by
  refine h.heapTo hE hle ⟨ho1.trans h.kept.os,ho2.trans h.kept.tape,ho3.trans h.kept.output,by have:=h.kept.size;omega,fun q hq hnq=>?_⟩ h.fo (fun _ h=>h) (fun q κ hq=>?_) (fun _ hb=>.inl hb) (by simp) hHOk
  . rw[hbk q (fun e=>?_)]
    . exact h.kept.block q hq hnq
    . subst e
      rcases h.lo q _ hpb with hm | hm
      . exact hnq hm
      . omega
  . obtain ⟨κ',hq'⟩:=ho q κ hq
    exact h.lo q κ' hq'
 unfold Oper.wp
 rw[zkD hop hsz (by omega) (by rw[hxc];rfl) hp (by rw[hxc];exact hrun),Oper.upon_skip]
 exact hk _ _ _ (hRel.put o.dst (.undef _))
theorem ztQ (h:Rel B F β st a w) {b n i j:Nat} {e e2:TypeId} {ty t':Ty} {cols:List (Nat × TypeId)} {hole hole':zbI} {xs:List ty.T} {zs:List t'.T} {cs':List AV} {y:ty.T} (hr:st.heap[b]?=some (.row e ty cols hole xs)) (hn:st.heap[n]?=some (.row e2 t' [] [] zs)) (hnb:n ≠ b)
 (hc:zaA cols j=some e2) (hin:(i,j,some n) ∈ hole) (hw:wr (ty.enc (nth xs i)) j [.sl t' zs]=some cs') (hd:ty.dec cs'=some y) (hh1 : ∀ p ∈ hole,p ≠ (i,j,some n)->p ∈ hole') (hh2 : ∀ p ∈ hole',p ∈ hole) :
 ∃ β',Rel B F β' { st with heap:=(st.heap.set n .dead).set b (.row e ty cols hole' (xs.set i y)) } a w/\β.Le β':=by
 obtain ⟨Vs,hown,hlen,hob,hD⟩:=h.heap.blk b _ hr
 obtain ⟨Ws,hown2,hlen2,hob2,hD2⟩:=h.heap.blk n _ hn
 obtain ⟨k1,k2,k3⟩:=zd5 hw
 rw[zaj]at k1
 have k2:j+1<=ty.sz:=by rcases k2 with k2 | k2;cases k2;rw[zaj]at k2;exact k2
 let β':Gh:=⟨β.b,β.v,fun q=>match β.o q with | some (k,s)=>if k=n then some (b,some (i,j))else some (k,s) | none=>none,β.l⟩
 have hle:β.Le β':=fun k hk=>⟨hk,rfl,rfl⟩
 have ho : ∀ q κ,β'.o q=some κ->∃ κ',β.o q=some κ':=fun q κ hq=>by
  cases hq2:β.o q with
  | none=>simp only[β',hq2]at hq;cases hq
  | some κ'=>exact⟨κ',rfl⟩
 have hoo : ∀ q k s,k ≠ n->β.o q=some (k,s)->β'.o q=some (k,s):=fun q k s hk hq=>by simp only[β',hq,if_neg hk]
 have hE:Ext F F w w:=zaO (fun _ h=>h) w
 have hHOk:HOk F w β' ((st.heap.set n .dead).set b (.row e ty cols hole' (xs.set i y))):=by
  refine⟨h.heap.fb,fun k kb hkb=>?_,fun q κ hq=>?_,fun q κ hq=>?_,fun k hk=>by rw[List.length_set,List.length_set];exact h.heap.live k hk⟩
  . by_cases hkb':k=b
    . subst hkb'
      obtain rfl:=zT hkb
      refine⟨Vs,by rw[List.length_set];exact hown,by simpa using hlen,fun q hq=>hoo q _ _ (fun e=>hnb e.symm) (hob q hq),fun i' j' hi' hj=>?_⟩
      have hi'':i'<xs.length:=by simpa using hi'
      have mono : ∀ {x v},(i' ≠ i ∨ j' ≠ j)->CellOk F w β k cols hole i' j' x v->CellOk F w β' k cols hole' i' j' x v:=fun {x v} hne hc=>
       hc.turn hE (fun ho n' hn'=>ho n' (hh2 _ hn')) (fun ho=>by
        rcases ho with ⟨m,ho⟩ | ⟨k',ho,hk'⟩
        . exact .inl ⟨m,hh1 _ ho fun e=>by simp at e;omega⟩
        . exact .inr ⟨k',hh1 _ ho fun e=>by simp at e,hk'⟩) fun q hq=>⟨hoo q _ _ (fun e=>hnb e.symm) hq,rfl⟩
      by_cases hii:i'=i
      . subst hii
        have e1:nth (xs.set i' y) i'=y:=by simp[nth,List.getD,hi'']
        rw[e1]
        have hdf:=(zbm (F:=F) (w:=w) (β:=Gh.nil) hd).2 j'
        have hdk:=zen hd j' (by omega)
        have hk3:=k3 j'
        by_cases hr':j'=j
        . subst hr'
          rw[if_pos (by simp)]at hk3
          simp only[Nat.sub_self,List.getD_cons_zero]at hk3
          rw[hk3]at hdk
          have hcl:=hD i' j' hi'' hj
          unfold CellOk at hcl ⊢
          rw[hc]at hcl ⊢
          obtain ⟨_,hv⟩:=hcl.1 n hin
          refine⟨fun n' hn'=>hcl.1 n' (hh2 _ hn'),.inr ⟨t',zs,Ws,hdk.1 _ _ rfl,by rw[hv];exact hown2,hlen2,fun q hq=>?_,fun a' b' ha' hb'=>(hD2 a' b' ha' hb').toD rfl⟩⟩
          rw[hv]at hq
          simp only[β',hob2 q hq,if_true]
        . rw[if_neg (fun h=>hr' (by simp at h;omega))]at hk3
          refine mono (.inr hr') ((hD i' j' hi'' hj).fit (by rw[← hk3];exact hdk) fun u hu=>hdf _ (by omega) ?_)
          rw[hk3];exact hu
      . have e1:nth (xs.set i y) i'=nth xs i':=by simp[nth,List.getD,List.getElem?_set,show ¬ i=i' from fun e=>hii e.symm]
        rw[e1]
        exact mono (.inl hii) (hD i' j' hi'' hj)
    . have h1:=zak hkb' hkb
      by_cases hkn:k=n
      . subst hkn
        obtain rfl:=zT h1
        trivial
      . have h2:=zak hkn h1
        exact(h.heap.blk k kb h2).mono hE hle ⟨rfl,rfl⟩ fun q s hq=>⟨hoo q _ _ hkn hq,rfl⟩
  . obtain ⟨κ',hq'⟩:=ho q κ hq
    exact h.heap.lt q κ' hq'
  . obtain ⟨κ',hq'⟩:=ho q κ hq
    exact h.heap.sep q κ' hq'
 refine⟨β',h.heapTo hE hle h.kept h.fo (fun _ h=>h) (fun q κ hq=>?_) (fun _ hb=>.inl hb) (by simp) hHOk,hle⟩
 obtain ⟨κ',hq'⟩:=ho q κ hq
 exact h.lo q κ' hq'
theorem zeZ {b:Nat} {e:TypeId} {ty:Ty} {cols:List (Nat × TypeId)} : ∀ {r pre:zbI} {xs:List ty.T} {hp:List Blk} {β:Gh},Rel B F β { st with heap:=hp } a w->hp[b]?=some (.row e ty cols (pre++r) xs)->
 ∃ β',Rel B F β' { st with heap:=zhh b e ty cols r pre xs hp } a w/\β.Le β'/\(zhh b e ty cols r pre xs hp).length=hp.length
 | [],pre,xs,hp,β,h,_=>⟨β,h,.refl _,rfl⟩
 | (i, j, o) :: r,pre,xs,hp,β,h,hb=>by
  simp only[zhh]
  split
  . rename_i n y hk
    unfold zEC at hk
    split at hk
    . rename_i n'
      split at hk
      . rename_i e2 t' zs e3 hn hc
        split at hk
        . rename_i cs' he hw
          split at hk
          . rename_i y' hd
            simp at hk;obtain ⟨rfl,rfl⟩:=hk
            have he:=Nat.eq_of_beq_eq_true he
            subst he
            have hnb:n' ≠ b:=fun e=>by
             subst e
             rw[hb]at hn
             simp only[Option.some.injEq,Blk.row.injEq]at hn
             obtain ⟨_,_,hcn,_⟩:=hn
             rw[hcn]at hc
             cases hc
            obtain ⟨β1,h1,h2⟩:=ztQ (hole':=pre++r) h hb hn hnb hc (by simp) hw hd (fun p hp hne=>by simp at hp ⊢;rcases hp with hp | hp | hp;exact .inl hp;exact absurd hp hne;exact .inr hp) (fun p hp=>by simp at hp ⊢;rcases hp with hp | hp;exact .inl hp;exact .inr (.inr hp))
            have hlt:=(List.getElem?_eq_some_iff.1 hb).1
            obtain ⟨β2,g1,g2,g3⟩:=zeZ (r:=r) (pre:=pre) (hp:=(hp.set n' .dead).set b (.row e ty cols (pre++r) (xs.set i y'))) h1 (by rw[List.getElem?_set,if_pos rfl,if_pos (by simpa using hlt)])
            exact⟨β2,g1,h2.trans g2,g3.trans (by simp)⟩
          . cases hk
        . cases hk
      . cases hk
    . cases hk
  . exact zeZ (r:=r) (pre:=pre++[(i,j,o)]) h (by simpa using hb)
theorem zk3{hp:List Blk}{β:Gh}(h:Rel B F β { st with heap:=hp } a w)(b:Nat) : ∃ β',Rel B F β' { st with heap:=zk2 hp b } a w/\β.Le β'/\(zk2 hp b).length=hp.length:=by
 unfold zk2
 split
 . rename_i e ty cols hole xs hb
   exact zeZ (pre:=[]) h hb
 . exact⟨β,h,.refl _,rfl⟩
theorem zlF{c:Nat} : ∀ {hole:zbI},noS c hole=true->∀ i n,(i,c,some n) ∉ hole
 | [],_,i,n,hm=>by cases hm
 | (i',c',none) :: r,h,i,n,hm=>by
  simp only[noS]at h
  rcases List.mem_cons.1 hm with hm | hm
  . simp at hm
  . exact zlF h i n hm
 | (i',c',some n') :: r,h,i,n,hm=>by
  simp only[noS]at h
  split at h
  . cases h
  . rename_i hb
    rcases List.mem_cons.1 hm with hm | hm
    . simp only[Prod.mk.injEq]at hm
      obtain ⟨_,rfl,_⟩:=hm
      simp at hb
    . exact zlF h i n hm
theorem zha{c i:Nat} : ∀ {hole:zbI},zhE c i hole=true->∀ k,(k,c,none) ∈ hole->k<=i
 | [],_,k,hm=>by cases hm
 | (k',c',none) :: r,h,k,hm=>by
  simp only[zhE]at h
  split at h
  . rename_i hb
    simp only[Bool.and_eq_true]at h
    rcases List.mem_cons.1 hm with hm | hm
    . simp only[Prod.mk.injEq]at hm
      obtain ⟨rfl,_⟩:=hm
      exact Nat.le_of_ble_eq_true h.1
    . exact zha h.2 k hm
  . rename_i hb
    rcases List.mem_cons.1 hm with hm | hm
    . simp only[Prod.mk.injEq]at hm
      obtain ⟨_,rfl,_⟩:=hm
      simp at hb
    . exact zha h k hm
 | (k',c',some n') :: r,h,k,hm=>by
  simp only[zhE]at h
  rcases List.mem_cons.1 hm with hm | hm
  . simp at hm
  . exact zha h k hm
theorem zBv{c i:Nat}{hole:zbI}(h1:noS c hole=true)(h2:zhE c i hole=true) : ¬ OutAt hole i c:=fun h=>by
 rcases h with ⟨n,h⟩ | ⟨k,h,hk⟩
 . exact zlF h1 i n h
 . have:=zha h2 k h;omega
theorem zvE{c:Nat} : ∀ {hole:zbI},(∀ i n,(i,c,some n) ∈ hole->i<ziV c hole)/\∀ k,(k,c,none) ∈ hole->k<=ziV c hole
 | []=>⟨fun i n hm=>(by cases hm),fun k hm=>by cases hm⟩
 | (i',c',o') :: r=>by
  obtain ⟨h1,h2⟩:=zvE (c:=c) (hole:=r)
  have key:ziV c r<=ziV c ((i',c',o') :: r):=by
   cases o' <;> simp only[ziV] <;> split <;> first | exact Nat.le_max_right _ _ | exact Nat.le_refl _
  refine⟨fun i n hm=>?_,fun k hm=>?_⟩
  . rcases List.mem_cons.1 hm with hm | hm
    . simp only[Prod.mk.injEq]at hm
      obtain ⟨rfl,rfl,rfl⟩:=hm
      simp only[ziV,Nat.beq_refl]
      exact Nat.lt_of_lt_of_le (Nat.lt_succ_self i) (Nat.le_max_left _ _)
    . exact Nat.lt_of_lt_of_le (h1 i n hm) key
  . rcases List.mem_cons.1 hm with hm | hm
    . simp only[Prod.mk.injEq]at hm
      obtain ⟨rfl,rfl,rfl⟩:=hm
      simp only[ziV,Nat.beq_refl]
      exact Nat.le_max_left _ _
    . exact Nat.le_trans (h2 k hm) key
theorem restH_mem{c:Nat} : ∀ {hole:zbI} {p:Nat × Nat × Option Nat},p ∈ zmM c hole ↔ p ∈ hole/\p.2.1 ≠ c
 | [],p=>by simp[zmM]
 | (i',c',o') :: r,p=>by
  simp only[zmM]
  split
  . rename_i hb
    have:=Nat.eq_of_beq_eq_true hb
    subst this
    rw[restH_mem,List.mem_cons]
    constructor
    . rintro ⟨h1,h2⟩;exact⟨.inr h1,h2⟩
    . rintro ⟨h1 | h1,h2⟩
      . subst h1;exact absurd rfl h2
      . exact⟨h1,h2⟩
  . rename_i hb
    have hne:c' ≠ c:=fun e=>by subst e;simp at hb
    rw[List.mem_cons,restH_mem,List.mem_cons]
    constructor
    . rintro (h1 | ⟨h1,h2⟩)
      . subst h1;exact⟨.inl rfl,hne⟩
      . exact⟨.inr h1,h2⟩
    . rintro ⟨h1 | h1,h2⟩
      . exact .inl h1
      . exact .inr ⟨h1,h2⟩
theorem zxP(h:Rel B F β st a w){b:Nat}{e:TypeId}{ty:Ty}{cols:List (Nat × TypeId)}{hole:zbI}{xs:List ty.T}(hr:st.heap[b]?=some (.row e ty cols hole xs))(c:Nat):Rel B F β { st with heap:=st.heap.set b (.row e ty cols ((ziV c hole,c,none) :: zmM c hole) xs) } a w:=by
 refine h.heapTo (zaO (fun _ h=>h) w) (.refl _) h.kept h.fo (fun _ h=>h) h.lo (fun _ hb=>.inl hb) (by simp) (h.heap.step b (zaO (fun _ h=>h) w) (.refl _) h.heap.fb h.heap.lt h.heap.sep (fun c hc=>by rw[List.length_set];exact h.heap.live c hc) (fun c k hc hk=>zak hc hk)
  (fun c _ _ _ _=>⟨⟨rfl,rfl⟩,fun p s hp=>⟨hp,rfl⟩⟩) fun k hk=>?_)
 obtain rfl:=zT hk
 obtain ⟨Vs,h1,h2,h3,h4⟩:=h.heap.blk b _ hr
 refine⟨Vs,h1,h2,h3,fun i j hi hj=>(h4 i j hi hj).turn (zaO (fun _ h=>h) w) (fun ho n hn=>?_) (fun ho=>?_) fun p hp=>⟨hp,rfl⟩⟩
 . rcases List.mem_cons.1 hn with hn | hn
   . simp at hn
   . exact ho n (restH_mem.1 hn).1
 . by_cases hjc:j=c
   . subst hjc
     refine .inr ⟨ziV j hole,by simp,?_⟩
     obtain ⟨l1,l2⟩:=zvE (c:=j) (hole:=hole)
     rcases ho with ⟨n,ho⟩ | ⟨k,ho,hk⟩
     . exact l1 i n ho
     . exact Nat.lt_of_lt_of_le hk (l2 k ho)
   . exact ho.imp fun p hp hpj=>List.mem_cons_of_mem _ (restH_mem.2 ⟨hp,by rw[hpj];exact hjc⟩)
theorem ztz {hp:List Blk} (h:Rel B F β { st with heap:=hp } a w) {b i c:Nat} {e e':TypeId} {ty t':Ty} {cols:List (Nat × TypeId)} {hole:zbI} {xs:List ty.T} {ys:List t'.T} (hr:hp[b]?=some (.row e ty cols hole xs)) (hc:zaA cols c=some e') (hj:noS c hole=true) (hj':zhE c i hole=true)
 (hx:(ty.enc (nth xs i)).getD c .undef=.sl t' ys) (hi:i<xs.length) {p N cp:Nat} (hvb:β.v b=.slice (some ⟨p,0,none⟩) N cp) :
 ∃ β',Rel B F β' { st with heap:=hp.set b (.row e ty cols ((i,c,some hp.length) :: hole) xs)++[.row e' t' [] [] ys] } a w/\β.Le β'/\∀ u,w.cell? ⟨p,i*ty.sz+c,none⟩=some u->V F w β' (.own hp.length) u:=by
 obtain ⟨Vs,hown,hlen,hob,hD⟩:=h.heap.blk b _ hr
 obtain ⟨hnl,hcell⟩:=zcf hown hvb
 have hoff:c<ty.sz:=by
  by_cases ho:c<ty.sz
  . exact ho
  . rw[List.getD_eq_getElem?_getD,List.getElem?_eq_none (by rw[zaj];omega)]at hx
    cases hx
 have hsub:=hD i c hi hoff
 unfold CellOk at hsub
 rw[hc,hx]at hsub
 obtain ⟨t2,y2,Ws,q1,q2,q3,q4,q5⟩:=hsub.2.resolve_left (zBv hj hj')
 cases q1
 have hcv:=hcell (i*ty.sz+c) (zb0 hi hoff)
 generalize hval:Vs.getD (i*ty.sz+c) undef=v at *
 let n:=hp.length
 let β':Gh:=⟨β.b,fun k=>if k=n then v else β.v k,fun q=>match β.o q with | some (k,s)=>if k=b/\s=some (i,c)then some (n,none)else some (k,s) | none=>none,fun k=>k=n ∨ β.l k⟩
 have hnn : ¬ β.l n:=fun hl=>absurd (h.heap.live n hl) (Nat.lt_irrefl _)
 have hle:β.Le β':=fun k hk=>⟨.inr hk,rfl,by simp only[β'];rw[if_neg (fun(e:k=n)=>hnn (e ▸ hk))]⟩
 have ho : ∀ q κ,β'.o q=some κ->∃ κ',β.o q=some κ':=fun q κ hq=>by
  cases hq2:β.o q with
  | none=>simp only[β',hq2]at hq;cases hq
  | some κ'=>exact⟨κ',rfl⟩
 have hoo : ∀ q k s,(k ≠ b ∨ s ≠ some (i,c))->β.o q=some (k,s)->β'.o q=some (k,s):=fun q k s hk hq=>by
  simp only[β',hq]
  rw[if_neg (fun h=>by rcases hk with hk | hk;exact hk h.1;exact hk h.2)]
 have hE:Ext F F w w:=zaO (fun _ h=>h) w
 have hlt:=(List.getElem?_eq_some_iff.1 hr).1
 have hvn:β'.v n=v:=by simp[β']
 have hHOk : HOk F w β' (hp.set b (.row e ty cols ((i,c,some n) :: hole) xs)++[.row e' t' [] [] ys]):=by
  refine⟨h.heap.fb,fun k kb hkb=>?_,fun q κ hq=>?_,fun q κ hq=>?_,fun k hk=>?_⟩
  . by_cases hkn:k=n
    . subst hkn
      have:kb=.row e' t' [] [] ys:=by
       have:=hkb
       rw[List.getElem?_append_right (by simp[n])]at this
       simpa [n]using this.symm
      subst this
      exact⟨Ws,by rw[hvn];exact q2,q3,fun q hq=>by
       rw[hvn]at hq
       simp only[β',q4 q hq,and_self,if_true],fun a' b' ha' hb'=>.data rfl (q5 a' b' ha' hb')⟩
    . have h1:(hp.set b (.row e ty cols ((i,c,some n) :: hole) xs))[k]?=some kb:=zdt (by simpa [n]using hkn) hkb
      by_cases hkb':k=b
      . subst hkb'
        obtain rfl:=zT h1
        have hbv:β'.v k=β.v k:=by simp only[β'];rw[if_neg hkn]
        refine⟨Vs,by rw[hbv];exact hown,hlen,fun q hq=>hoo q _ _ (.inr (by simp)) (hob q (by rw[hbv]at hq;exact hq)),fun i' j hi' hj=>?_⟩
        have hcl:=hD i' j hi' hj
        unfold CellOk at hcl ⊢
        cases hcc:zaA cols j with
        | none=>rw[hcc]at hcl;exact hcl
        | some e3=>
         rw[hcc]at hcl
         refine⟨fun n' hn'=>?_,?_⟩
         . rcases List.mem_cons.1 hn' with hn' | hn'
           . simp only[Prod.mk.injEq,Option.some.injEq]at hn'
             obtain ⟨rfl,rfl,rfl⟩:=hn'
             exact⟨.inl rfl,by rw[hvn];exact hval⟩
           . obtain ⟨r1,r2⟩:=hcl.1 n' hn'
             obtain ⟨s1,_,s2⟩:=hle n' r1
             exact⟨s1,by rw[s2];exact r2⟩
         . by_cases hij:i'=i/\j=c
           . exact .inl (.inl ⟨n,by rw[hij.1,hij.2];simp⟩)
           . rcases hcl.2 with ho' | ⟨t3,y3,V3,r1,r2,r3,r4,r5⟩
             . exact .inl (ho'.imp fun p hp _=>List.mem_cons_of_mem _ hp)
             . refine .inr ⟨t3,y3,V3,r1,r2,r3,fun q hq=>hoo q _ _ (.inr fun e=>hij ?_) (r4 q hq),r5⟩
               simpa using e
      . have h2:=zak hkb' h1
        exact(h.heap.blk k kb h2).mono hE hle ⟨rfl,by simp only[β'];rw[if_neg hkn]⟩ fun q s hq=>⟨hoo q _ _ (.inl hkb') hq,rfl⟩
  . obtain ⟨κ',hq'⟩:=ho q κ hq
    exact h.heap.lt q κ' hq'
  . obtain ⟨κ',hq'⟩:=ho q κ hq
    exact h.heap.sep q κ' hq'
  . rcases hk with rfl | hk
    . simp[n]
    . have:=h.heap.live k hk;simp at this ⊢;omega
 have hRel:Rel B F β' { st with heap:=hp.set b (.row e ty cols ((i,c,some n) :: hole) xs)++[.row e' t' [] [] ys] } a w:=by
  refine h.heapTo hE hle h.kept h.fo (fun _ h=>h) (fun q κ hq=>?_) (fun k hk=>?_) (by simp) hHOk
  . obtain ⟨κ',hq'⟩:=ho q κ hq
    exact h.lo q κ' hq'
  . rcases hk with rfl | hk
    . exact .inr (Nat.le_refl _)
    . exact .inl hk
 obtain ⟨A,c3,hA⟩:=zh5 q2
 refine⟨β',hRel,hle,fun u hu=>?_⟩
 have hov:V F w β' (.own hp.length) v:=by
  have:=V.own (F:=F) (w:=w) (β:=β') n (.inl rfl) A _ c3 (hvn.trans hA)
  rwa [hvn]at this
 have:u=v:=by
  have:=hcv.symm.trans (by simpa using hu)
  simpa using this.symm
 rw[this];exact hov
theorem ziL{i off m i' c n:Nat}{hole:zbI} : ∀ {r:List (Nat × TypeId)},zds i off m ((i',c,some n) :: hole) r=zds i off m hole r
 | []=>rfl
 | (c',_) :: r=>by simp only[zds,zhE,ziL (r:=r)]
theorem zgY{b i off m:Nat}{e:TypeId}{ty:Ty}{cols:List (Nat × TypeId)}{xs:List ty.T}(hi:i<xs.length){p N cp:Nat} : ∀ {r:List (Nat × TypeId)} {hole:zbI} {as as':List (Nat × Nat)} {hp hp':List Blk} {β:Gh},Rel B F β { st with heap:=hp } a w->hp[b]?=some (.row e ty cols hole xs)->β.v b=.slice (some ⟨p,0,none⟩) N cp->β.l b->zds i off m hole r=true->
 (∀ c n,lkN as c=some n->∀ u,w.cell? ⟨p,i*ty.sz+c,none⟩=some u->V F w β (.own n) u)->znM b e ty cols xs i off m r hole as hp=some (hp',as')->
 ∃ β' hole',Rel B F β' { st with heap:=hp' } a w/\β.Le β'/\hp.length<=hp'.length/\hp'[b]?=some (.row e ty cols hole' xs)/\∀ c n,lkN as' c=some n->∀ u,w.cell? ⟨p,i*ty.sz+c,none⟩=some u->V F w β' (.own n) u
 | [],hole,as,as',hp,hp',β,h,hb,hv,hl,_,ha,ht=>by
  simp[znM]at ht
  obtain ⟨rfl,rfl⟩:=ht
  exact⟨β,hole,h,.refl _,Nat.le_refl _,hb,ha⟩
 | (c, e1) :: r,hole,as,as',hp,hp',β,h,hb,hv,hl,hfr,ha,ht=>by
  simp only[znM]at ht
  simp only[zds]at hfr
  split at ht
  . rename_i hrange
    rw[hrange]at hfr
    simp only[Bool.and_eq_true]at hfr
    split at ht
    . rename_i e' t' ys hj hc hx
      obtain ⟨β1,h1,h2,h3⟩:=ztz h hb hc hj hfr.1 hx hi hv
      have hlt:=(List.getElem?_eq_some_iff.1 hb).1
      obtain ⟨l1,_,l2⟩:=h2 b hl
      obtain ⟨β2,hole2,g1,g2,g3,g4,g5⟩:=zgY hi (r:=r) h1 (by rw[List.getElem?_append_left (by simpa using hlt),List.getElem?_set,if_pos rfl,if_pos hlt]) (l2.trans hv) l1 (by rw[ziL];exact hfr.2) (fun c' n hl u hu=>by
       simp only[lkN]at hl
       split at hl
       . rename_i hcc
         have:=Nat.eq_of_beq_eq_true hcc
         subst this
         simp at hl;subst hl
         exact h3 u hu
       . exact(ha c' n hl u hu).mono (zaO (fun _ h=>h) w) h2) ht
      exact⟨β2,hole2,g1,h2.trans g2,by simp at g3;omega,g4,g5⟩
    . cases ht
  . rename_i hrange
    rw[hrange]at hfr
    exact zgY hi (r:=r) h hb hv hl hfr ha ht
theorem zjZ(cols:List (Nat × TypeId))(as:List (Nat × Nat)) : ∀ (j:Nat) (l:List AV),(zkZ cols as j l).length=l.length
 | _,[]=>rfl
 | j,x :: r=>by simp only[zkZ,List.length_cons,zjZ cols as (j+1) r]
theorem zoB(cols:List (Nat × TypeId))(as:List (Nat × Nat)) : ∀ (j:Nat) (l:List AV) (q:Nat),q<l.length->(zkZ cols as j l).getD q .undef=match zaA cols (j+q)with | some _=>(match lkN as (j+q)with | some n=>.own n | none=>.undef) | none=>l.getD q .undef
 | _,[],q,hq=>by simp at hq
 | j,x :: r,q,hq=>by
  cases q with
  | zero=>
   simp only[zkZ,List.getD_cons_zero,Nat.add_zero]
   cases zaA cols j with
   | none=>rfl
   | some e=>cases lkN as j <;> rfl
  | succ q=>
   have:=zoB cols as (j+1) r q (by simpa using hq)
   rw[show j+1+q=j+(q+1)by omega]at this
   simpa only [zkZ,List.getD_cons_succ]using this
theorem zuQ(h:Rel B F β st a w){o:Oper}{t e:TypeId}{ad:Operand}(hop:o.op=.load t ad){b sz i off:Nat}(hb:st.ev ad=.oel b sz i off){ty:Ty}{cols:List (Nat × TypeId)}{hole:zbI}{xs:List ty.T}
 (hr:(zk2 st.heap b)[b]?=some (.row e ty cols hole xs)) (hs:ty.sz=sz) {hp:List Blk} {as:List (Nat × Nat)} (ht:znM b e ty cols xs i off (P.cellsOf t) cols hole [] (zk2 st.heap b)=some (hp,as)) {x:AV} (hx:rd P t (zkZ cols as 0 (ty.enc (nth xs i))) off=some x) (hfr:zds i off (P.cellsOf t) hole cols=true) {next:Act->World->Prop} {Q:Exit->Act->World->Prop}
 (hk : ∀ u w' β',Rel B F β' (({ st with heap:=hp }:St).put o.dst x) (a.put o.dst u) w'->st.heap.length<=hp.length->next (a.put o.dst u) w'):o.wp P a w next Q:=by
 have hv:=h.ev ad;rw[hb]at hv
 obtain ⟨p,N,c,hbm,hvb,hin,hp0⟩:=zlW hv
 obtain ⟨β1,h1,h2,h3⟩:=zk3 (st:=st) (hp:=st.heap) h b
 obtain ⟨l1,_,l2⟩:=h2 b hbm
 have hvb1:=l2.trans hvb
 obtain ⟨Vs0,hown0,_⟩:=h1.heap.blk b _ hr
 obtain ⟨hnl,_⟩:=zcf hown0 hvb1
 have hix:i<xs.length:=by omega
 obtain ⟨β2,hole2,g1,g2,g3,g4,g5⟩:=zgY hix h1 hr hvb1 l1 hfr (fun c n hl=>by cases hl) ht
 obtain ⟨l3,_,l4⟩:=g2 b l1
 have hvb2:=l4.trans hvb1
 obtain ⟨Vs,hown,hlen,hob,hD⟩:=g1.heap.blk b _ g4
 obtain ⟨_,hcell⟩:=zcf hown hvb2
 subst hs
 obtain ⟨y,hy,hrun⟩:=zew (P:=P) (β:=β2) (F:=F) (w:=w) hx p (i*ty.sz) (fun j=>Vs.getD (i*ty.sz+j) undef) (fun j hj=>by
  rw[zjZ,zaj]at hj
  rw[zoB _ _ _ _ _ (by rw[zaj];exact hj),Nat.zero_add]
  cases hc:zaA cols j with
  | none=>exact((hD i j hix hj).toD hc).ofD
  | some _=>
   simp only
   cases hq:lkN as j with
   | none=>exact .undef _
   | some n=>exact g5 j n hq _ (by have:=hcell (i*ty.sz+j) (zb0 hix hj);exact this))
 have hload:(Instr.loadAt t (a.eval ad)).run P w=.ok y w:=by
  have:=hrun w fun j hj=>by
   rw[zjZ,zaj]at hj
   exact hcell _ (zb0 hix hj)
  rw[hp0]
  simpa [Instr.loadAt,Instr.sureAddr,Sem.run_bind]using this
 refine zaS (w':=w) (y:=y) ?_ (hk _ _ _ (g1.put o.dst hy) (by omega))
 simp[execOp,hop,Sem.run_bind,hload]
theorem zkT(t:Ty) : ∀ (m k:Nat) (xs:List t.T),(zfD t m k xs).length=m*t.sz
 | 0,_,_=>by simp[zfD]
 | m+1,k,xs=>by simp only[zfD,List.length_append,zaj,zkT t m (k+1) xs,Nat.add_mul,Nat.one_mul];omega
theorem zkS(t:Ty) : ∀ (m k:Nat) (xs:List t.T) {q j:Nat},q<m->j<t.sz->(zfD t m k xs).getD (q*t.sz+j) .undef=(t.enc (nth xs (k+q))).getD j .undef
 | 0,_,_,q,j,hq,_=>by omega
 | m+1,k,xs,q,j,hq,hj=>by
  simp only[zfD]
  cases q with
  | zero=>simp only[List.getD];rw[List.getElem?_append_left (by rw[zaj];omega)];simp
  | succ q=>
   have:=zkS t m (k+1) xs (q:=q) (j:=j) (by omega) hj
   have e:(q+1)*t.sz+j=t.sz+(q*t.sz+j):=by rw[Nat.add_mul];omega
   simp only[List.getD]at this ⊢
   rw[List.getElem?_append_right (by rw[zaj];omega),zaj,e,Nat.add_sub_cancel_left,this,show k+1+q=k+(q+1)by omega]
theorem zud(t:Ty)(m:Nat)(xs:List t.T):(zjU t m xs).length=m*t.sz:=zkT t m 0 xs
theorem zuc(t:Ty)(m:Nat)(xs:List t.T){q j:Nat}(hq:q<m)(hj:j<t.sz):(zjU t m xs).getD (q*t.sz+j) .undef=(t.enc (nth xs q)).getD j .undef:=by
 have:=zkS t m 0 xs hq hj
 rwa [Nat.zero_add]at this
theorem zrl(h:Rel B F β st a w){o:Oper}{t e:TypeId}{ad x:Operand}(hop:o.op=.store t ad x){b o0 m i d:Nat}{ty:Ty}(hb:st.ev ad=.rex b o0 ty m i d){L zs cs cs' cs2:List AV}(hne:L ≠ [])(hL:(st.ev x).cells=some L)(hr:st.heap[b]?=some (.cells e cs))
 (hsz:L.length=P.cellsOf t) {ys:List ty.T} (hys:zdd ty m ((cs.drop o0).take (m*ty.sz))=some ys) {st1:St} (hz:st.frzs L=some (zs,st1)) {e2:TypeId} {c2:List AV} (hr1:st1.heap[b]?=some (.cells e2 c2)) (hw:wr (ty.enc (nth ys i)) d zs=some cs') {y:ty.T} (hd:ty.dec cs'=some y) (hw2:wr cs o0 (zjU ty m (ys.set i y))=some cs2) {next:Act->World->Prop} {Q:Exit->Act->World->Prop}
 (hk : ∀ u w' F' β',Rel B F' β' (({ st1 with heap:=st1.heap.set b (.cells e cs2) }:St).put o.dst .undef) (a.put o.dst u) w'->Al st st1->next (a.put o.dst u) w'):o.wp P a w next Q:=by
 have hv:=h.ev ad;rw[hb]at hv
 obtain ⟨hbm,him,hp⟩:=zrC hv
 obtain ⟨F1,β1,z1,zl,zd⟩:=zme h hz
 have hr1':st1.heap[b]?=some (.cells e cs):=by
  have:=z1.cells _ _ _ hr1
  rw[hr]at this
  rw[hr1];exact this.symm
 clear hr1
 obtain ⟨us,T,hrow,hus,hkey,hcs⟩:=z1.rel.heap.blk b _ hr1'
 obtain ⟨g1,g2⟩:=zg3 (h.ev x) hL
 obtain ⟨k1,k2,k3⟩:=zd5 hw
 rw[zaj]at k1
 have hzl:zs.length=L.length:=zl
 have hzn:zs ≠ []:=fun e=>hne (List.eq_nil_of_length_eq_zero (by rw[← hzl,e];rfl))
 have k2:d+zs.length<=ty.sz:=by rcases k2 with k2 | k2;exact absurd k2 hzn;rw[zaj]at k2;exact k2
 have hpos:0<L.length:=List.length_pos_iff.2 hne
 obtain ⟨d1,d2,d3⟩:=zdA (F:=F1) (w:=w) (β:=β1) hys
 have hmp:0<m*ty.sz:=Nat.mul_pos (by omega) (zbw ty)
 have hlen:o0+m*ty.sz<=cs.length:=by simp only[List.length_take,List.length_drop]at d2;omega
 have hE2 : ∀ k j,k<m->j<ty.sz->(zjU ty m (ys.set i y)).getD (k*ty.sz+j) .undef=(ty.enc (nth (ys.set i y) k)).getD j .undef:=fun k j hk hj=>zuc ty m (ys.set i y) hk hj
 have hEl:(zjU ty m (ys.set i y)).length=m*ty.sz:=zud ty m _
 obtain ⟨l1,l2,l3⟩:=zd5 hw2
 let vs:=(a.eval x).cells.toList
 have hvl:vs.length=L.length:=by simpa [vs]using g1
 have hvd : ∀ j,j<L.length->D F1 w (zs.getD j .undef) (vs.getD j undef):=fun j hj=>by
  have:=zd (fun j=>(a.eval x).cells.getD j undef) (fun j hj=>(g2 j hj).1) j hj
  simpa [vs,List.getD,Array.getD_eq_getD_getElem?]using this
 have hone : ∀ v ∈ vs,v.oneCell'=true:=fun v hv=>by
  obtain ⟨j,hj,rfl⟩:=List.getElem_of_mem hv
  have hj':j<(a.eval x).cells.size:=by simpa [vs]using hj
  have:=(g2 j (by omega)).2
  simpa [vs,Array.getD,hj']using this
 have hfit:i*ty.sz+ty.sz<=m*ty.sz:=by rw[← Nat.succ_mul];exact Nat.mul_le_mul_right _ him
 have hrun:=run_storeCells_at P (β1.b b) (o0+i*ty.sz+d) T vs 0 us w hrow (by omega) hone
 simp only[Nat.add_zero]at hrun
 generalize hw':w.setRow (β1.b b) _=w' at hrun
 have hbk : ∀ k,k ≠ β1.b b->w'.heap[k]?=w.heap[k]?:=fun k hk=>by rw[← hw'];exact setRow_other w _ k _ hk
 have hszw:w'.heap.size=w.heap.size:=by rw[← hw'];simp
 have hrow':w'.heap[β1.b b]?=some (.cells (us.toList.take (o0+i*ty.sz+d)++vs++us.toList.drop (o0+i*ty.sz+d+vs.length)).toArray T (0,0)):=by rw[← hw'];exact setRow_heap w _ us _ T _ hrow
 have hlt:=(List.getElem?_eq_some_iff.1 hr1').1
 have hRel : Rel B F1 β1 { st1 with heap:=st1.heap.set b (.cells e cs2) } a w':=by
  refine z1.rel.write hlt hkey (by rw[← hw'];rfl) (by rw[← hw'];rfl) (by rw[← hw'];rfl) hszw hbk fun hE=>?_
  refine⟨_,T,hrow',by simp;omega,hkey,fun q hq=>?_⟩
  have hq':q<cs.length:=by omega
  have hv:V F1 w β1 (cs2.getD q .undef) ((us.toList.take (o0+i*ty.sz+d)++vs++us.toList.drop (o0+i*ty.sz+d+vs.length)).toArray.getD q undef):=by
   rw[l3 q,Array.getD_eq_getD_getElem?,List.getElem?_toArray,← List.getD_eq_getElem?_getD,zjB (by simp;omega),hEl]
   have hold:V F1 w β1 (cs.getD q .undef) (us.toList.getD q undef):=by
    have:=hcs q hq'
    have e:us.toList.getD q undef=us.getD q undef:=by rw[List.getD_eq_getElem?_getD,Array.getElem?_toList,Array.getD_eq_getD_getElem?]
    rw[e];exact this
   by_cases hin:o0<=q/\q<o0+m*ty.sz
   . rw [if_pos hin]
     obtain ⟨k,j,hk,hj,hqe⟩ : ∃ k j,k<m/\j<ty.sz/\q=o0+(k*ty.sz+j):=by
      refine⟨(q-o0) / ty.sz,(q-o0) % ty.sz,Nat.div_lt_of_lt_mul (by rw[Nat.mul_comm];omega),Nat.mod_lt _ (zbw ty),?_⟩
      have:=Nat.div_add_mod (q-o0) ty.sz
      rw[Nat.mul_comm]at this
      omega
     subst hqe
     rw[show o0+(k*ty.sz+j)-o0=k*ty.sz+j by omega,hE2 k j hk hj]
     have hkj:=zb0 hk hj
     have e0:((cs.drop o0).take (m*ty.sz)).getD (k*ty.sz+j) .undef=cs.getD (o0+(k*ty.sz+j)) .undef:=by simp[List.getD,List.getElem?_take,hkj]
     by_cases hki:k=i
     . subst hki
       have e1:nth (ys.set k y) k=y:=by simp[nth,List.getD,show k<ys.length by omega]
       rw[e1]
       refine(zbm (F:=F1) (w:=w) (β:=β1) hd).2 j _ (by omega) ?_
       rw[k3 j]
       by_cases hr:d<=j/\j<d+zs.length
       . rw[if_pos hr,if_pos (by omega)]
         have:=hvd (j-d) (by omega)
         rw[show o0+(k*ty.sz+j)-(o0+k*ty.sz+d)=j-d by omega]
         exact this.ofD
       . rw[if_neg hr,if_neg (by omega)]
         exact d3 k j hk hj _ (by rw[e0];exact hold)
     . have e1:nth (ys.set i y) k=nth ys k:=by simp[nth,List.getD,List.getElem?_set,show ¬ i=k from fun e=>hki e.symm]
       rw[e1,if_neg]
       . exact d3 k j hk hj _ (by rw[e0];exact hold)
       . rintro ⟨q1,q2⟩
         rcases Nat.lt_or_gt_of_ne hki with hlt | hgt
         . have:=Nat.mul_le_mul_right ty.sz (Nat.succ_le_of_lt hlt)
           rw[Nat.succ_mul]at this
           omega
         . have:=Nat.mul_le_mul_right ty.sz (Nat.succ_le_of_lt hgt)
           rw[Nat.succ_mul]at this
           omega
   . rw[if_neg hin,if_neg (by omega)]
     exact hold
  exact hv.mono hE (.refl _)
 unfold Oper.wp
 rw[zkD hop hsz hpos (by simpa [vs]using hvl) hp (by rw[← z1.b];exact hrun),Oper.upon_skip]
 exact hk _ _ _ _ (hRel.put o.dst (.undef _)) z1.al
theorem zzq(h:Rel B F β st a w){o:Oper}{t t' e:TypeId}{s x:Operand}(hop:o.op=.call { callee:=.builtin .append,args:=#[s,x],argTypes:=#[t,t'] })(hu:P.underlying t=some (.slice e)){kn kq:IntKind}(hu':P.underlying t'=some (.int kn)){ty:Ty}{z:List AV}{i:TypeInfo}
 (hz:zdp P e=some z) (hi:P.info? e=some i) {x0:ty.T} (hx0:ty.dec z=some x0) (hs:i.size=ty.sz) (hb:0<i.bytes) {xs:List ty.T} {st1:St} (h1:st.base e ty [] (st.ev s)=some (xs,st1)) {n:Int} (hx:st.ev x=.v (.int kq n)) (h0:0<n)
 (hle:(xs.length+n.toNat)*i.bytes<=140737488355328) {next:Act->World->Prop} {Q:Exit->Act->World->Prop}
 (hk : ∀ u w' β',Rel B F β' (st1.push (.row e ty [] [] (xs++List.replicate n.toNat x0)) o.dst) (a.put o.dst u) w'->Al st st1->next (a.put o.dst u) w'):o.wp P a w next Q:=by
 obtain ⟨Vs,T1,u1⟩:=zhP h h1
 have hR1:=u1.rel
 obtain ⟨i',zv,hi',hzv,rfl⟩:=zdq hz
 obtain rfl:i=i':=by rw[hi]at hi';simpa using hi'
 obtain ⟨d1,d2⟩:=zbm (F:=F) (w:=w) (β:=Gh.nil) hx0
 have hzs:zv.cells.size=ty.sz:=by simpa using d1
 have hev:a.eval x=.int kq n:=by have:=h.ev x;rw[hx]at this;exact V_v this
 have hnn:((n.toNat:Nat):Int)=n:=Int.toNat_of_nonneg (by omega)
 have hmb:xs.length+n.toNat<=(xs.length+n.toNat)*i.bytes:=Nat.le_mul_of_pos_right _ hb
 have hcell : ∀ i j,i<n.toNat->j<ty.sz->(Builtin.zeroCells zv.cells n.toNat).toList.getD (i*ty.sz+j) undef=zv.cells.getD j undef:=fun i j hi' hj=>by
  have e:(Builtin.zeroCells zv.cells n.toNat).toList=(madeCells zv.cells (n.toNat*zv.cells.size)).toList:=rfl
  rw[e,zhc _ _ _ (by rw[hzs];exact zb0 hi' hj) (by rw[hzs];exact zbw ty),hzs,Nat.mul_comm i,Nat.mul_add_mod,Nat.mod_eq_of_lt hj]
 have hlen:(Builtin.zeroCells zv.cells n.toNat).toList.length=(List.replicate n.toNat x0).length*ty.sz:=by rw[Array.length_toList,size_zeroCells,hzs,List.length_replicate]
 have hD : ∀ i j,i<(List.replicate n.toNat x0).length->j<ty.sz->D F w ((ty.enc (nth (List.replicate n.toNat x0) i)).getD j .undef) ((Builtin.zeroCells zv.cells n.toNat).toList.getD (i*ty.sz+j) undef):=fun i j hi' hj=>by
  have hi'':i<n.toNat:=by simpa using hi'
  rw[hcell i j hi'' hj]
  have e:nth (List.replicate n.toNat x0) i=x0:=by simp[nth,List.getD,hi'']
  rw[e]
  refine d2 j _ (by rw[d1];exact hj) ?_
  have hj':j<zv.cells.size:=by omega
  simp only[List.getD,List.getElem?_map,Array.getElem?_toList,hj',Array.getElem?_eq_getElem,Option.map_some,Option.getD_some,Array.getD,dite_true]
  exact .v _
 obtain ⟨v',w',r1,r2,r3,r4⟩:=zgA (P:=P) (w:=w) (ty:=o.type) (kq:=kq) hu hu' hi hzv hs hzs (zbw ty) u1.own (m:=n.toNat) (by omega) (ziZ hlen hD) (by simp only[maxLen];omega) hle
 rw[hnn]at r1
 obtain ⟨β',hR,_⟩:=hR1.pushRowT (xs:=xs++List.replicate n.toNat x0) (cols:=[]) T1 (by simpa using r2) r3 (by simp;omega) u1.sep (fun p hp=>by
  rcases r4 with r4 | r4
  . exact .inl (r4 ▸ hp)
  . right;rw[r4]at hp;simp at hp;omega) (fun p s' hp=>by
    obtain ⟨q1,b,s2,q2,q3,_⟩:=u1.tr p s' hp
    exact⟨q1,b,s2,q2,q3⟩) (fun i' j hi' hj=>by
    have hVl:=u1.own.1
    by_cases hlt:i'<xs.length
    . have e1:nth (xs++List.replicate n.toNat x0) i'=nth xs i':=by simp[nth,List.getD,List.getElem?_append_left hlt]
      have e2:(Vs++(Builtin.zeroCells zv.cells n.toNat).toList).getD (i'*ty.sz+j) undef=Vs.getD (i'*ty.sz+j) undef:=by
       simp only[List.getD];rw[List.getElem?_append_left (by rw[hVl];exact zb0 hlt hj)]
      have:=u1.cell i' j hlt hj
      rw[Nat.zero_add]at this
      rw[e1,e2];exact this
    . have e1:nth (xs++List.replicate n.toNat x0) i'=nth (List.replicate n.toNat x0) (i'-xs.length):=by simp[nth,List.getD,List.getElem?_append_right (Nat.le_of_not_lt hlt)]
      have e3:i'*ty.sz+j=xs.length*ty.sz+((i'-xs.length)*ty.sz+j):=by
       rw[← Nat.add_assoc,← Nat.add_mul,Nat.add_sub_cancel' (Nat.le_of_not_lt hlt)]
      have e2:(Vs++(Builtin.zeroCells zv.cells n.toNat).toList).getD (i'*ty.sz+j) undef=(Builtin.zeroCells zv.cells n.toNat).toList.getD ((i'-xs.length)*ty.sz+j) undef:=by
       simp only[List.getD];rw[List.getElem?_append_right (by rw[hVl,e3];omega),hVl,e3,Nat.add_sub_cancel_left]
      rw[e1,e2]
      unfold CellT
      simp only[zaA]
      exact hD _ _ (by simp at hi' ⊢;omega) hj) o.dst
 refine zaS (w':=w') (y:=v') ?_ (hk _ _ _ hR u1.al)
 simp[execOp,hop,hev,resolve,invoke,builtin,Sem.run_bind,r1]
end
end Go.Proofs.YtgajeebphoiphaaGreatDoor
end
