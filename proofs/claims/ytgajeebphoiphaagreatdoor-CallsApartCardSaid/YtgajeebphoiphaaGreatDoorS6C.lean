import Derived.Test.YtgajeebphoiphaaGreatDoorS6
import Derived.Laws.CopyRow
import Derived.Laws.IdiomCopy
set_option linter.unusedVariables false
set_option linter.unusedSimpArgs false
noncomputable section
namespace Go.Proofs.YtgajeebphoiphaaGreatDoor
open Go.RowKit
section
variable {P:Program} {GL:List AV} {G:Gam} {B:Bs} {F:Nat->Prop} {β:Gh} {st:St} {a:Act} {w:World}
theorem zyr(hh:HOk F w β st.heap){ty:Ty}{ys:List ty.T}{xv:AV}{v0:Value}(hv:V F w β xv v0)(h2:st.src ty xv=some ys) : ∃ (A:Option Addr) (c:Nat) (news:List Value),v0=.slice A ys.length c/\news.length=ys.length*ty.sz/\(A=none->ys.length=0)/\(∀ ad,A=some ad->∀ j u,news[j]?=some u->w.cell? (ad.add j)=some u)/\
 (∀ i j,i<ys.length->j<ty.sz->D F w ((ty.enc (nth ys i)).getD j .undef) (news.getD (i*ty.sz+j) undef)):=by
 have fromD : ∀ v,D F w (.sl ty ys) v->∃ (A:Option Addr) (c:Nat) (news:List Value),v=.slice A ys.length c/\news.length=ys.length*ty.sz/\(A=none->ys.length=0)/\(∀ ad,A=some ad->∀ j u,news[j]?=some u->w.cell? (ad.add j)=some u)/\
  (∀ i j,i<ys.length->j<ty.sz->D F w ((ty.enc (nth ys i)).getD j .undef) (news.getD (i*ty.sz+j) undef)):=by
  intro v hd
  cases hd with
  | sl0 _ A c=>exact⟨A,c,[],rfl,by simp,fun _=>rfl,fun ad _ j u hj=>by simp at hj,fun i j hi=>by simp at hi⟩
  | sl _ _ b o c Y hF hb' hl hcap hc hd=>
   refine⟨_,c,(List.range (ys.length*ty.sz)).map fun k=>Y (k / ty.sz) (k % ty.sz),rfl,by simp,(fun hA=>by cases hA),fun ad hA j u hj=>?_,fun i j hi' hj=>?_⟩
   . cases hA
     have hjl:j<ys.length*ty.sz:=by
      have:=(List.getElem?_eq_some_iff.1 hj).1
      simpa using this
     simp[hjl]at hj
     subst hj
     rw[add_lit]
     have:=hc (j / ty.sz) (j % ty.sz) (Nat.div_lt_of_lt_mul (by rw[Nat.mul_comm];exact hjl)) (Nat.mod_lt _ (zbw ty))
     rw[Nat.mul_comm,Nat.div_add_mod]at this
     exact this
   . have hij:=zb0 hi' hj
     have e1:((List.range (ys.length*ty.sz)).map fun k=>Y (k / ty.sz) (k % ty.sz)).getD (i*ty.sz+j) undef=Y i j:=by
      have hd1:(i*ty.sz+j) / ty.sz=i:=by rw[Nat.mul_comm,Nat.mul_add_div (zbw ty),Nat.div_eq_of_lt hj];rfl
      have hd2:(i*ty.sz+j) % ty.sz=j:=by rw[Nat.mul_comm,Nat.mul_add_mod,Nat.mod_eq_of_lt hj]
      simp[List.getD,hij,hd1,hd2]
     rw[e1]
     exact hd i j hi' hj
 unfold St.src at h2
 split at h2
 . rename_i t' xs'
   unfold zfa at h2
   split at h2
   . rename_i e1 _
     subst e1
     simp at h2;subst h2
     exact fromD _ (sl_D hv)
   . cases h2
 . rename_i b
   obtain ⟨_,hvy,_⟩:=zdw hv
   split at h2
   . rename_i e' t' xs' hb'
     unfold zfa at h2
     split at h2
     . rename_i e1 _
       subst e1
       simp at h2;subst h2
       obtain ⟨Ws,g1,g2,_,g3⟩:=hh.blk b _ hb'
       obtain ⟨A,c,hA,hA0,hA1⟩:=zmE g1
       exact⟨A,c,Ws,by rw[hvy,hA],g1.1,hA0,hA1,fun i j hi hj=>(g3 i j hi hj).toD rfl⟩
     . cases h2
   . rename_i t' xs' hb'
     unfold zfa at h2
     split at h2
     . rename_i e1 _
       subst e1
       simp at h2;subst h2
       rw[hvy]
       exact fromD _ (hh.blk b _ hb')
     . cases h2
   . cases h2
 . rename_i c
   simp at h2;subst h2
   rw[V_v hv]
   exact fromD _ (.sl0 ty _ c)
 . cases h2
theorem zuF{e N:Nat}{v:Value}{Vs:List Value}(hown:w.ownsRow 0 e 1 v N Vs){p n c:Nat}(hv:v=.slice (some ⟨p,0,none⟩) n c){o:Nat}{vs:List Value}(hf:o+vs.length<=N) :
 n=N/\∃ cur:Array Value,w.heap[p]?=some (.cells cur e (0,0))/\o+vs.length<=cur.size/\
  ∃ Us,(w.setRow p (cur.toList.take o++vs++cur.toList.drop (o+vs.length)).toArray).ownsRow 0 e 1 v N Us/\∀ j,j<N->Us.getD j undef=if o<=j/\j<o+vs.length then vs.getD (j-o) undef else Vs.getD j undef:=by
 rcases hown.2 with ⟨hvn,_⟩ | ⟨g,cap,cur,hvg,hg,hh,hnc,hcm,hcs,htk⟩
 . rw[hv]at hvn;cases hvn
 rw[hv]at hvg
 simp only[Value.slice.injEq,Option.some.injEq,Addr.mk.injEq,true_and,and_true]at hvg
 obtain ⟨rfl,rfl,rfl⟩:=hvg
 rw[Nat.mul_one]at htk hcs
 have hrow:(w.setRow p (cur.toList.take o++vs++cur.toList.drop (o+vs.length)).toArray).heap[p]?=some (.cells (cur.toList.take o++vs++cur.toList.drop (o+vs.length)).toArray e (0,0)):=setRow_heap w _ cur _ e _ hh
 refine⟨rfl,cur,hh,by omega,(cur.toList.take o++vs++cur.toList.drop (o+vs.length)).take n,?_,fun j hj=>?_⟩
 . rw[hv]
   refine⟨by simp;omega,.inr ⟨p,c,_,rfl,hg,hrow,hnc,hcm,by simp;omega,by simp⟩⟩
 . have:=zjB (l:=cur.toList) (vs:=vs) (o:=o) (by simp;omega) j undef
   rw[← htk]
   simp only[List.getD,List.getElem?_take,if_pos hj]at this ⊢
   exact this
theorem zCc{t:Ty}{xs zs:List t.T}{o i:Nat}(h:o+zs.length<=xs.length)(hi:i<xs.length):nth (zcH xs o zs) i=if o<=i/\i<o+zs.length then nth zs (i-o)else nth xs i:=by
 unfold zcH nth
 simp only[List.getD]
 by_cases hr:o<=i/\i<o+zs.length
 . rw[if_pos hr,List.getElem?_append_right (by simp;omega),List.getElem?_append_left (by simp;omega)]
   congr 2
   simp;omega
 . rw[if_neg hr]
   rcases Nat.lt_or_ge i o with h1 | h1
   . rw[List.getElem?_append_left (by simp;omega),List.getElem?_take,if_pos h1]
   . rw[List.getElem?_append_right (by simp;omega),List.getElem?_append_right (by simp;omega),List.getElem?_drop]
     congr 2
     simp;omega
theorem zCe{α:Type}(xs:List α)(o:Nat):zcH xs o []=xs:=by simp[zcH]
theorem zCd{α:Type}{xs zs:List α}{o:Nat}(h:o+zs.length<=xs.length):(zcH xs o zs).length=xs.length:=by simp[zcH];omega
theorem zxD{x:AV}{v:Value}(hv:V F w β x v){b q:Nat}{m:Option Nat}(hd:zvo x=some (b,q,m)){e:TypeId}{ty:Ty}{xs:List ty.T}(hb:BlkOk F w β b (.row e ty [] [] xs)):β.l b/\∃ A c,v=.slice A (m.getD xs.length) c/\(0<m.getD xs.length->∃ p N c,β.v b=.slice (some ⟨p,0,none⟩) N c/\q+m.getD xs.length<=N/\A=some ⟨p,q,none⟩):=by
 unfold zvo at hd
 split at hd
 . rename_i b'
   simp at hd
   obtain ⟨rfl,rfl,rfl⟩:=hd
   obtain ⟨h1,h2,A,n,c,h3⟩:=zdw hv
   obtain ⟨Vs,hown,_⟩:=hb
   rw[h2]at h3
   rcases hown.2 with ⟨h0,hn0⟩ | ⟨g,cap,cur,hvg,_⟩
   . refine⟨h1,none,0,by rw[h2,h0];simp;exact hn0.symm,fun hp=>?_⟩
     simp at hp;omega
   . exact⟨h1,some ⟨g,0,none⟩,cap,by rw[h2,hvg];simp,fun _=>⟨g,_,cap,hvg,by simp,rfl⟩⟩
 . rename_i b' sz o n
   split at hd
   . rename_i hs
     have hs:=Nat.eq_of_beq_eq_true hs
     subst hs
     simp at hd
     obtain ⟨rfl,rfl,rfl⟩:=hd
     obtain ⟨A,c,h1,h2,h3,h4⟩:=zGT hv
     exact⟨h1,A,c,by simpa using h3,fun h0=>by simpa using h4 h0⟩
   . cases hd
 . cases hd
theorem zj1{st:St}{b:Nat}{k:Blk}(h:st.heap[b]?=some k):({ st with heap:=st.heap.set b k }:St)=st:=by
 obtain ⟨hb,he⟩:=List.getElem?_eq_some_iff.1 h
 have:st.heap.set b k=st.heap:=by rw[← he];exact List.set_getElem_self hb
 rw[this]
theorem zvY(h:Rel B F β st a w){b:Nat}{e:TypeId}{ty:Ty}{xs zs:List ty.T}{q:Nat}(hr:st.heap[b]?=some (.row e ty [] [] xs))(h1:ty.sz=1){p N c:Nat}(hvb:β.v b=.slice (some ⟨p,0,none⟩) N c)(hq:q+zs.length<=N){vs:List Value}(hvl:vs.length=zs.length)(hD : ∀ i,i<zs.length->D F w ((ty.enc (nth zs i)).getD 0 .undef) (vs.getD i undef)) :
 ∃ cur:Array Value,w.heap[p]?=some (.cells cur e (0,0))/\q+vs.length<=cur.size/\Rel B F β { st with heap:=st.heap.set b (.row e ty [] [] (zcH xs q zs)) } a (w.setRow p (cur.toList.take q++vs++cur.toList.drop (q+vs.length)).toArray):=by
 obtain ⟨Vs,hown,hlen,hob,hD0⟩:=h.heap.blk b _ hr
 rw[h1]at hown
 have hNx:N=xs.length:=(zcf hown hvb).1
 obtain ⟨_,cur,hc1,hc2,Us,hown',hUs⟩:=zuF (w:=w) hown hvb (o:=q) (vs:=vs) (by omega)
 refine⟨cur,hc1,hc2,?_⟩
 have hpb:β.o p=some (b,none):=hob p (by simp[hvb,Value.ownBlock])
 have hlt:=(List.getElem?_eq_some_iff.1 hr).1
 have hbk : ∀ k,k ≠ p->(w.setRow p (cur.toList.take q++vs++cur.toList.drop (q+vs.length)).toArray).heap[k]?=w.heap[k]?:=fun k hk=>setRow_other w _ k _ hk
 refine h.write hlt hpb rfl rfl rfl (by simp) hbk fun hE=>?_
 have hsl:(zcH xs q zs).length=xs.length:=zCd (by omega)
 refine⟨Us,by rw[hsl,h1];exact hown',by rw[hsl];exact hlen,hob,fun i j hi hj=>?_⟩
 rw[hsl]at hi
 have hj0:j=0:=by omega
 subst hj0
 rw[h1,Nat.mul_one,Nat.add_zero,hUs i hi,zCc (by omega) hi]
 by_cases hin:q<=i/\i<q+zs.length
 . rw[if_pos hin,if_pos (by omega)]
   exact .data rfl ((hD (i-q) (by omega)).mono hE)
 . rw[if_neg hin,if_neg (by omega)]
   have:=hD0 i 0 hi (by omega)
   rw[h1,Nat.mul_one,Nat.add_zero]at this
   exact this.mono hE (.refl _) fun r hr'=>⟨hr',hbk r fun e=>by subst e;rw[hpb]at hr';cases hr'⟩
theorem zt9(h:Rel B F β st a w){o:Oper}{t t' e e2:TypeId}{d s:Operand}(hop:o.op=.call { callee:=.builtin .copy,args:=#[d,s],argTypes:=#[t,t'] }){b q:Nat}{m:Option Nat}(hd:zvo (st.ev d)=some (b,q,m)){ty:Ty}{xs ys:List ty.T}(hr:st.heap[b]?=some (.row e ty [] [] xs))
 (hu:P.underlying t=some (.slice e2)) (h1:ty.sz=1) (hc2:P.cellsOf e2=1) (hy:st.src ty (st.ev s)=some ys) {next:Act->World->Prop} {Q:Exit->Act->World->Prop}
 (hk : ∀ u w',Rel B F β (({ st with heap:=st.heap.set b (.row e ty [] [] (zcH xs q (ys.take (m.getD xs.length)))) }:St).put o.dst (.v (.int .i64 (ys.take (m.getD xs.length)).length))) (a.put o.dst u) w'->next (a.put o.dst u) w'):o.wp P a w next Q:=by
 obtain ⟨A,c,news,hx,hnl,hA0,hA1,hD⟩:=zyr h.heap (h.ev s) hy
 obtain ⟨hbl,A',dc,hdv,hdp⟩:=zxD (h.ev d) hd (h.heap.blk b _ hr)
 obtain ⟨ie,hie,hies⟩:=zcY hc2 (by omega)
 have hs1:(P.info? e2).map (·.size)=some 1:=by rw[hie];simp[hies]
 generalize hn:m.getD xs.length=n at *
 rw[h1,Nat.mul_one]at hnl
 have hzl:(ys.take n).length=min n ys.length:=List.length_take
 by_cases hz:(ys.take n).length=0
 . have hz0:ys.take n=[]:=List.eq_nil_of_length_eq_zero hz
   have hrun:=run_copy_none (P:=P) w t t' o.type e2 A' A n dc ys.length c hu hs1 (by show min ys.length n=0;omega)
   have hrel:=h.put o.dst (.v (.int .i64 ((0:Nat):Int)))
   rw[hz0,zCe,zj1 hr]at hk
   refine zaS (w':=w) (y:=goInt 0) ?_ (hk (goInt 0) w hrel)
   simp[execOp,hop,resolve,invoke,builtin,hdv,hx,hrun,Result.andThen]
 . have hn0:0<n:=by omega
   obtain ⟨p,N,c2,hvb,hqn,rfl⟩:=hdp hn0
   have hy0:0<ys.length:=by omega
   cases A with
   | none=>exact absurd (hA0 rfl) (by omega)
   | some ad=>
    have hvl:(news.take n).length=(ys.take n).length:=by simp[hnl]
    obtain ⟨cur,hc1,hcs,hR⟩:=zvY h hr h1 hvb (q:=q) (zs:=ys.take n) (by omega) hvl (fun i hi=>by
     have hi':i<ys.length:=by omega
     have:=hD i 0 hi' (by omega)
     rw[h1,Nat.mul_one,Nat.add_zero]at this
     have e1:nth (ys.take n) i=nth ys i:=by simp[nth,List.getD,List.getElem?_take,show i<n by omega]
     have e2:(news.take n).getD i undef=news.getD i undef:=by simp[List.getD,List.getElem?_take,show i<n by omega]
     rw[e1,e2];exact this)
    have hone : ∀ v ∈ news.take n,v.oneCell'=true:=fun v hv=>ziZ (ty:=ty) (ys:=ys) (by rw[hnl,h1,Nat.mul_one]) hD v (List.mem_of_mem_take hv)
    have hrun:=run_copy_row (P:=P) w t t' o.type e2 p q n dc ad ys.length c cur e (news.take n) hu hs1 hc1 (by show(news.take n).length=Nat.min ys.length n;rw[hvl,hzl];exact Nat.min_comm _ _) (fun j v hj=>hA1 ad rfl j v (by
     rw[List.getElem?_take]at hj
     split at hj
     . exact hj
     . cases hj)) hcs hone
    have e:goInt ((news.take n).length:Int)=.int .i64 ((ys.take n).length:Int):=by rw[hvl];rfl
    rw[e]at hrun
    refine zaS (w':=w.setRow p (cur.toList.take q++news.take n++cur.toList.drop (q+(news.take n).length)).toArray) (y:=.int .i64 ((ys.take n).length:Int)) ?_ (hk _ _ (hR.put o.dst (.v _)))
    simp[execOp,hop,resolve,invoke,builtin,hdv,hx,hrun,Result.andThen]
theorem zrM (h:Rel B F β st a w) {o:Oper} {t e e2:TypeId} {x:Operand} (hop:o.op=.call { callee:=.builtin .clear,args:=#[x],argTypes:=#[t] }) {b:Nat} (hx:st.ev x=.own b) {ty:Ty} {xs:List ty.T} (hr:st.heap[b]?=some (.row e ty [] [] xs))
 (hu:P.underlying t=some (.slice e2)) (h1:ty.sz=1) {z:AV} (hz:zdp P e2=some [z]) {y:ty.T} (hy:ty.dec [z]=some y) {next:Act->World->Prop} {Q:Exit->Act->World->Prop}
 (hk : ∀ u w',Rel B F β (({ st with heap:=st.heap.set b (.row e ty [] [] (List.replicate xs.length y)) }:St).put o.dst (.v (.tuple #[]))) (a.put o.dst u) w'->next (a.put o.dst u) w'):o.wp P a w next Q:=by
 obtain ⟨i,zv,hi,hzv,hzc⟩:=zdq hz
 obtain ⟨c0,hc0⟩ : ∃ c0,zv.cells=#[c0]:=by
  match hq:zv.cells,hzc with
  | ⟨[c0]⟩,_=>exact⟨c0,rfl⟩
  | ⟨[]⟩,hzc=>simp at hzc
  | ⟨_ :: _ :: _⟩,hzc=>simp at hzc
 have hze:z=.v c0:=by rw[hc0]at hzc;simpa using hzc
 have hzero : ∀ w:World,(zeroValue e2).run P w=.ok zv w:=fun w=>by simp[zeroValue,typeInfo,hi,hzv,Sem.run_bind,run_program,Sem.run,Result.andThen]
 have hv:=h.ev x;rw[hx]at hv
 obtain ⟨hbl,hvb,_⟩:=zdw hv
 obtain ⟨Vs,hown,_⟩:=h.heap.blk b _ hr
 have hspl:zcH xs 0 (List.replicate xs.length y)=List.replicate xs.length y:=by simp[zcH]
 rcases hown.2 with ⟨h0,hn0⟩ | ⟨g,cap,cur,hvg,_⟩
 . have hxs:xs=[]:=List.eq_nil_of_length_eq_zero hn0
   subst hxs
   have hrel:=h.put o.dst (.v (.tuple #[]))
   simp only[List.length_nil,List.replicate_zero]at hk
   rw[zj1 hr]at hk
   refine zaS (w':=w) (y:=.tuple #[]) ?_ (hk _ w hrel)
   simp[execOp,hop,resolve,invoke,builtin,Builtin.clear_,hvb,h0,run_underlying hu w,Sem.run_bind,Result.andThen]
 . by_cases hx0:xs.length=0
   . have hxs:xs=[]:=List.eq_nil_of_length_eq_zero hx0
     subst hxs
     have hrel:=h.put o.dst (.v (.tuple #[]))
     simp only[List.length_nil,List.replicate_zero]at hk
     rw[zj1 hr]at hk
     refine zaS (w':=w) (y:=.tuple #[]) ?_ (hk _ w hrel)
     simp[execOp,hop,resolve,invoke,builtin,Builtin.clear_,hvb,hvg,run_underlying hu w,Sem.run_bind,Result.andThen]
   . have hd0:D F w ((ty.enc y).getD 0 .undef) c0:=(zbm (F:=F) (w:=w) (β:=Gh.nil) hy).2 0 c0 (by simp) (by rw[hze];exact .v c0)
     have hone:c0.oneCell'=true:=by
      have:=zvp (β:=Gh.nil) (show 0<ty.sz by omega) hd0
      exact this
     obtain ⟨cur',hc1,hcs,hR⟩:=zvY h hr h1 hvg (q:=0) (zs:=List.replicate xs.length y) (vs:=List.replicate xs.length c0) (by simp) (by simp) (fun i hi=>by
      have hi':i<xs.length:=by simpa using hi
      have e1:nth (List.replicate xs.length y) i=y:=by simp[nth,List.getD,hi']
      have e2:(List.replicate xs.length c0).getD i undef=c0:=by simp[List.getD,hi']
      rw[e1,e2];exact hd0)
     rw[hspl]at hR
     have hrun:=run_storeCells_at P g 0 e (List.replicate xs.length c0) 0 cur' w hc1 (by simpa using hcs) (fun v hv=>by rw[List.eq_of_mem_replicate hv];exact hone)
     have hzcs:(Builtin.zeroCells zv.cells xs.length).toList=List.replicate xs.length c0:=by
      rw[hc0]
      simp[Builtin.zeroCells]
      apply List.ext_getElem
      . simp
      . intro i h1 h2
        simp[Nat.mod_one]
     obtain ⟨k,hk'⟩ : ∃ k,xs.length=k+1:=⟨xs.length-1,by omega⟩
     refine zaS (y:=.tuple #[]) ?_ (hk _ _ (hR.put o.dst (.v _)))
     simp only[Nat.add_zero,Nat.zero_add]at hrun hR ⊢
     rw[hk']at hrun hzcs hvg ⊢
     simp[execOp,hop,resolve,invoke,builtin,Builtin.clear_,hvb,hvg,run_underlying hu w,Sem.run_bind,hzero,hzcs,hrun,Result.andThen]
theorem zuS(h:Rel B F β st a w){o:Oper}{t e e2:TypeId}{x:Operand}{lo hi:Option Operand}(hop:o.op=.slice t x lo hi none){b:Nat}(hx:st.ev x=.own b){ty:Ty}{xs:List ty.T}(hr:st.heap[b]?=some (.row e ty [] [] xs))(hu:P.underlying t=some (.slice e2)){l hh:Int}(hlo:bnd st lo 0=some l)(hhi:bnd st hi xs.length=some hh)(hs:P.cellsOf e2=ty.sz)(hin:inS l hh xs.length=true){next:Act->World->Prop}{Q:Exit->Act->World->Prop}
 (hk : ∀ u,Rel B F β (st.put o.dst (.vw b ty.sz l.toNat (hh.toNat-l.toNat))) (a.put o.dst u) w->next (a.put o.dst u) w):o.wp P a w next Q:=by
 have hv:=h.ev x;rw[hx]at hv
 obtain ⟨hbl,hvb,_⟩:=zdw hv
 obtain ⟨Vs,hown,_⟩:=h.heap.blk b _ hr
 obtain ⟨h0,h1,h2⟩:=inS_iff.1 hin
 obtain ⟨i,hi',hsz⟩:=zcY hs (zbw ty)
 have run : ∀ A c,xs.length<=c->(Instr.sliceAt t (.slice A xs.length c) (lo.map a.eval) (hi.map a.eval) none).run P w=.ok (.slice (if c=l.toNat then A else A.map (·.add (l.toNat*ty.sz))) (hh.toNat-l.toNat) (c-l.toNat)) w:=by
  intro A c hc
  simp[Instr.sliceAt,Instr.slice,Sem.run_bind,run_underlying hu w,zia (P:=P) (zcJ h hlo) (zcJ h hhi) h0 h1 h2 hc w,zaP hi' w,hsz]
 rcases hown.2 with ⟨hv0,hn0⟩ | ⟨g,cap,cur,hvg,_,_,hnc,_⟩
 . have hl0:l.toNat=0:=by omega
   have hh0:hh.toNat=0:=by omega
   have hr0:=run none 0 (by omega)
   rw[hn0]at hr0
   refine zaS (w':=w) (y:=.slice (if(0:Nat)=l.toNat then none else none) (hh.toNat-l.toNat) (0-l.toNat)) ?_ (hk _ (h.put o.dst (.vw b ty.sz l.toNat (hh.toNat-l.toNat) _ _ hbl (by omega) fun hp=>by omega)))
   simp[execOp,hop,hvb,hv0,hn0,hr0,Sem.run_bind,Result.andThen]
 . refine zaS (w':=w) (y:=.slice (if cap=l.toNat then some ⟨g,0,none⟩else some ⟨g,l.toNat*ty.sz,none⟩) (hh.toNat-l.toNat) (cap-l.toNat)) ?_ (hk _ (h.put o.dst (.vw b ty.sz l.toNat (hh.toNat-l.toNat) _ _ hbl (by omega) fun hp=>⟨g,_,cap,hvg,by omega,by rw[if_neg (by omega)]⟩)))
   have hr0:=run (some ⟨g,0,none⟩) cap hnc
   simp only[Option.map_some,add_lit,Nat.zero_add]at hr0
   simp[execOp,hop,hvb,hvg,hr0,Sem.run_bind,Result.andThen]
def Ents(F:Nat->Prop)(w:World)(β:Gh)(b:Nat)(cols:List (Nat × TypeId))(k v:Ty)(es:List (k.T × v.T))(Es:Array MapEntry):Prop:=
 Es.size=es.length/\∀ (i:Nat) (p:k.T × v.T) (e:MapEntry),es[i]?=some p->Es[i]?=some e->D F w (zbU k p.1) e.key/\CellOk F w β b cols [] 0 0 (zbU v p.2) e.val
section
variable {b:Nat} {cols:List (Nat × TypeId)} {k v:Ty} {es es':List (k.T × v.T)} {Es Es':Array MapEntry}
theorem Ents.of(hl:Es.size=es.length)(hk : ∀ i,i<es.length->D F w (zbU k (es.getD i default).1) (Es.getD i default).key)(hv : ∀ i,i<es.length->CellOk F w β b cols [] 0 0 (zbU v (es.getD i default).2) (Es.getD i default).val):Ents F w β b cols k v es Es:=
 ⟨hl,fun i p e hp he=>by
  have hi:=(List.getElem?_eq_some_iff.1 hp).1
  have h1:=hk i hi
  have h2:=hv i hi
  rw[List.getD_eq_getElem?_getD,hp,Array.getD_eq_getD_getElem?,he]at h1 h2
  exact⟨h1,h2⟩⟩
theorem Ents.get(h:Ents F w β b cols k v es Es){i:Nat}(hi:i<es.length):D F w (zbU k (es.getD i default).1) (Es.getD i default).key/\CellOk F w β b cols [] 0 0 (zbU v (es.getD i default).2) (Es.getD i default).val:=by
 have hi':i<Es.size:=by rw[h.1];exact hi
 obtain ⟨h1,h2⟩:=h.2 i es[i] Es[i] (List.getElem?_eq_getElem hi) (Array.getElem?_eq_getElem hi')
 rw[List.getD_eq_getElem?_getD,List.getElem?_eq_getElem hi,Array.getD_eq_getD_getElem?,Array.getElem?_eq_getElem hi']
 exact⟨h1,h2⟩
theorem Ents.push(h:Ents F w β b cols k v es Es){p:k.T × v.T}{e:MapEntry}(hk:D F w (zbU k p.1) e.key)(hv:CellOk F w β b cols [] 0 0 (zbU v p.2) e.val):Ents F w β b cols k v (es++[p]) (Es.push e):=by
 refine⟨by simp[h.1],fun i q e' hq he=>?_⟩
 rw[Array.getElem?_push]at he
 by_cases hi:i=Es.size
 . rw[if_pos hi]at he
   cases he
   rw[hi,h.1]at hq
   simp at hq
   subst hq
   exact⟨hk,hv⟩
 . rw[if_neg hi]at he
   have hlt:=(Array.getElem?_eq_some_iff.1 he).1
   rw[List.getElem?_append_left (by rw[← h.1];exact hlt)]at hq
   exact h.2 i q e' hq he
theorem Ents.modify(h:Ents F w β b cols k v es Es)(j:Nat){p:k.T × v.T}{f:MapEntry->MapEntry}(hk : ∀ e,D F w (zbU k p.1) (f e).key)(hv : ∀ e,CellOk F w β b cols [] 0 0 (zbU v p.2) (f e).val):Ents F w β b cols k v (es.set j p) (Es.modify j f):=by
 refine⟨by simp[h.1],fun i q e' hq he=>?_⟩
 rw[Array.getElem?_modify]at he
 rw[List.getElem?_set]at hq
 by_cases hi:j=i
 . rw[if_pos hi]at he hq
   obtain ⟨e,_,rfl⟩:=Option.map_eq_some_iff.1 he
   split at hq
   . cases hq;exact⟨hk _,hv _⟩
   . cases hq
 . rw[if_neg hi]at he hq
   exact h.2 i q e' hq he
theorem Ents.erase(h:Ents F w β b cols k v es Es){j:Nat}(hj:j<es.length):Ents F w β b cols k v (es.eraseIdx j) (Es.eraseIdxIfInBounds j):=by
 have hj':j<Es.size:=by rw[h.1];exact hj
 have e0:Es.eraseIdxIfInBounds j=Es.eraseIdx j hj':=by simp[Array.eraseIdxIfInBounds,hj']
 rw[e0]
 refine⟨by simp[List.length_eraseIdx,h.1,hj],fun i q e' hq he=>?_⟩
 rw[← Array.getElem?_toList,Array.toList_eraseIdx,List.getElem?_eraseIdx]at he
 rw[List.getElem?_eraseIdx]at hq
 split at hq
 . rename_i hi
   rw[if_pos hi,Array.getElem?_toList]at he
   exact h.2 i q e' hq he
 . rename_i hi
   rw[if_neg hi,Array.getElem?_toList]at he
   exact h.2 _ q e' hq he
theorem Rel.mapSet(h:Rel B F β st a w)(hb:st.heap[b]?=some (.map k v cols es)){clock clock':Nat}(hE:w.heap[β.b b]?=some (.map Es clock))(hs:Ents F w β b cols k v es' Es') :
 Rel B F β { st with heap:=st.heap.set b (.map k v cols es') } a { w with heap:=w.heap.setIfInBounds (β.b b) (.map Es' clock') }:=by
 obtain ⟨_,_,_,_,ho,_⟩:=h.heap.blk b _ hb
 obtain ⟨g1,g2⟩:=MapKept.heap_set (o':=.map Es' clock') hE
 refine h.write (List.getElem?_eq_some_iff.1 hb).1 ho rfl rfl rfl (by simp) (fun q hq=>g2 q hq) fun hX=>?_
 exact⟨Es',clock',g1,hs.1,ho,fun i hi=>(hs.get hi).1.mono hX,fun i hi=>(hs.get hi).2.mono hX (.refl _) fun p hp=>⟨hp,g2 p fun e=>by rw[e,ho]at hp;cases hp⟩⟩
end
theorem Rel.fold(h:Rel B F β st a w){n b:Nat}{e2:TypeId}{t':Ty}{zs:List t'.T}(hn:st.heap[n]?=some (.row e2 t' [] [] zs))(hnb:n ≠ b)(i j:Nat) :
 ∃ β',Rel B F β' { st with heap:=st.heap.set n .dead } a w/\β.Le β'/\β'.b=β.b/\zEz F w β' b i j e2 (.sl t' zs) (β.v n):=by
 obtain ⟨Ws,hown2,hlen2,hob2,hD2⟩:=h.heap.blk n _ hn
 let β':Gh:=⟨β.b,β.v,fun q=>match β.o q with | some (k,s)=>if k=n then some (b,some (i,j))else some (k,s) | none=>none,β.l⟩
 have hle:β.Le β':=fun k hk=>⟨hk,rfl,rfl⟩
 have ho : ∀ q κ,β'.o q=some κ->∃ κ',β.o q=some κ':=fun q κ hq=>by
  cases hq2:β.o q with
  | none=>simp only[β',hq2]at hq;cases hq
  | some κ'=>exact⟨κ',rfl⟩
 have hoo : ∀ q k s,k ≠ n->β.o q=some (k,s)->β'.o q=some (k,s):=fun q k s hk hq=>by simp only[β',hq,if_neg hk]
 have hE:Ext F F w w:=zaO (fun _ h=>h) w
 have hHOk:HOk F w β' (st.heap.set n .dead):=by
  refine⟨h.heap.fb,fun k kb hkb=>?_,fun q κ hq=>?_,fun q κ hq=>?_,fun k hk=>by rw[List.length_set];exact h.heap.live k hk⟩
  . by_cases hkn:k=n
    . subst hkn
      obtain rfl:=zT hkb
      trivial
    . have h2:=zak hkn hkb
      exact(h.heap.blk k kb h2).mono hE hle ⟨rfl,rfl⟩ fun q s hq=>⟨hoo q _ _ hkn hq,rfl⟩
  . obtain ⟨κ',hq'⟩:=ho q κ hq
    exact h.heap.lt q κ' hq'
  . obtain ⟨κ',hq'⟩:=ho q κ hq
    exact h.heap.sep q κ' hq'
 refine⟨β',h.heapTo hE hle h.kept h.fo (fun _ h=>h) (fun q κ hq=>?_) (fun _ hb=>.inl hb) (by simp) hHOk,hle,rfl,t',zs,Ws,rfl,hown2,hlen2,fun q hq=>?_,fun a' b' ha' hb'=>(hD2 a' b' ha' hb').toD rfl⟩
 . obtain ⟨κ',hq'⟩:=ho q κ hq
   exact h.lo q κ' hq'
 . simp only[β',hob2 q hq,if_true]
theorem zJN{t t':Ty}{zs:List t'.T}{x:t.T}(h:rdA t (.sl t' zs)=some x):zbU t x=.sl t' zs:=by
 unfold rdA at h
 unfold zbU
 cases hs:t.isS with
 | true=>rw[hs]at h;cases h
 | false=>
  rw[hs]at h
  exact(zen h 0 (by simp)).1 _ _ rfl
theorem zqv(h:Rel B F β st a w){b:Nat}{cols:List (Nat × TypeId)}{v:Ty}{y:AV}{x:v.T}{st1:St}(hs:st.mapVal b cols v y=some (x,st1)) :
 ∃ F1 β1,Rel B F1 β1 st1 a w/\(∀ q,F q->F1 q)/\β.Le β1/\β1.b=β.b/\Al st st1/\(∀ (c:Nat) (k v:Ty) (cols:List (Nat × TypeId)) (es:List (k.T × v.T)),st1.heap[c]?=some (Blk.map k v cols es)->st.heap[c]?=some (Blk.map k v cols es))/\∀ u,V F w β y u->CellOk F1 w β1 b cols [] 0 0 (zbU v x) u:=by
 unfold St.mapVal at hs
 split at hs
 . rename_i hc
   split at hs
   . rename_i y1 st1' hf
     split at hs
     . rename_i x' hx
       cases hs
       obtain ⟨F1,β1,z1,d1⟩:=zdh 9 h hf
       refine⟨F1,β1,z1.rel,z1.sub,z1.le,z1.b,z1.al,z1.map,fun u hu=>?_⟩
       unfold CellOk
       rw[hc]
       exact(zBJ hx (d1 u hu)).toD (zd7 _ _)
     . cases hs
   . cases hs
 . rename_i e hc
   split at hs
   . rename_i n
     split at hs
     . rename_i e2 t' zs hnb hn
       split at hs
       . rename_i x' he hx
         cases hs
         obtain rfl:=Nat.eq_of_beq_eq_true he
         have hnb':n ≠ b:=fun e=>by subst e;simp at hnb
         obtain ⟨β1,hR,hle,hbb,hso⟩:=h.fold hn hnb' 0 0
         refine⟨F,β1,hR,fun _ h=>h,hle,hbb,⟨rfl,rfl,by simp⟩,fun c k v cols es hq=>?_,fun u hu=>?_⟩
         . by_cases hcn:c=n
           . subst hcn;have:=zT hq;cases this
           . exact zak hcn hq
         . obtain ⟨_,rfl,_⟩:=zdw hu
           unfold CellOk
           rw[hc]
           exact⟨.nil,.inr (by rw[zJN hx];exact hso)⟩
       . cases hs
     . cases hs
   . cases hs
theorem zsG{kt:TypeId}(hs:zj3 P kt=true){x y:Value}(h:eqV P 10000 kt x y=some true):Instr.sameBits 10000 y x=true:=by
 unfold zj3 at hs
 unfold eqV at h
 split at hs
 . rename_i ik hu
   rw[hu]at h
   split at h <;> first | (cases h;done) | skip
   all_goals rename_i e1 <;> try (cases e1;done)
   all_goals
    split at h
    . rename_i e2 _
      subst e2
      simp at h
      subst h
      simp[Instr.sameBits]
    . cases h
 . rename_i hu
   rw[hu]at h
   split at h <;> first | (cases h;done) | skip
   all_goals rename_i e1 <;> try (cases e1;done)
   all_goals
    simp at h
    subst h
    simp[Instr.sameBits]
 . cases hs
theorem zls(h:Rel B F β st a w){b:Nat}{cols:List (Nat × TypeId)}{k v:Ty}{es es':List (k.T × v.T)}(hb:st.heap[b]?=some (.map k v cols es)){t kt vt:TypeId}(hu:P.underlying t=some (.map kt vt)){kv yv:Value}{key:k.T}{val:v.T}
 (hc : ∀ e,(Instr.checkKey e 10000 kt kv).run P w=.ok () w) (hk:D F w (zbU k key) kv) (hv:CellOk F w β b cols [] 0 0 (zbU v val) yv) (hm:zn5 (zdE P kt k kv) (zj3 P kt) key val es=some es') :
 ∃ w',(Instr.mapUpdate t (.map (some (β.b b))) kv yv).run P w=.ok () w'/\Rel B F β { st with heap:=st.heap.set b (.map k v cols es') } a w':=by
 obtain ⟨d,hd⟩:=zfB hc
 obtain ⟨Es,clock,h1,h2,ho,h4,h5⟩:=h.heap.blk b _ hb
 have hs:=Ents.of h2 h4 h5
 unfold zn5 at hm
 cases hq:mix (zdE P kt k kv) es with
 | none=>rw[hq]at hm;cases hm
 | some q=>
  rw[hq]at hm
  obtain ⟨hf,hj⟩:=zdr (F:=F) (w:=w) (P:=P) hd h2 h4 hq
  cases q with
  | none=>
   cases hm
   refine⟨_,?_,h.mapSet (clock':=clock+1) hb h1 (hs.push (p:=(key,val)) (e:={ key:=kv,val:=yv,born:=clock }) hk hv)⟩
   simp only[Instr.mapUpdate,Sem.run_bind,run_underlying hu w,Result.andThen,MapKept.run_getObj_map h1,hc,hf,Option.map_none,MapKept.run_setObj_map _ h1]
  | some j=>
   obtain ⟨hj,heq⟩:=hj j rfl
   cases ho':zj3 P kt with
   | false=>rw[ho']at hm;cases hm
   | true=>
    rw[ho']at hm
    cases hm
    have hj':j<Es.size:=by rw[h2];exact hj
    have e1:Es[j]?=some (Es.getD j default):=by rw[Array.getD_eq_getD_getElem?,Array.getElem?_eq_getElem hj'];rfl
    have hsb:=zsG ho' heq
    have hR:=h.mapSet (clock':=clock) hb h1 (hs.modify j (p:=(key,val)) (f:=fun e:MapEntry=>({ e with key:=kv,val:=yv }:MapEntry)) (fun _=>hk) fun _=>hv)
    refine⟨_,?_,hR⟩
    have hks:(Instr.keyThatStays (((Es[j]?).map (·.key)).getD kv) kv).run P w=.ok kv w:=by
     rw[e1]
     simp only[Option.map_some,Option.getD_some]
     unfold Instr.keyThatStays
     rw[if_pos hsb]
     rfl
    simp only[Instr.mapUpdate,Sem.run_bind,run_underlying hu w,Result.andThen,MapKept.run_getObj_map h1,hc,hf,Option.map_some,hks,MapKept.run_setObj_map _ h1]
theorem zlr(h:Rel B F β st a w){b:Nat}{cols:List (Nat × TypeId)}{k v:Ty}{es es':List (k.T × v.T)}(hb:st.heap[b]?=some (.map k v cols es)){t kt vt:TypeId}(hu:P.underlying t=some (.map kt vt)){kv:Value}{ts:Array TypeId}(ht:ts[0]?=some t)(ty:TypeId)
 (hc : ∀ e,(Instr.checkKey e 10000 kt kv).run P w=.ok () w) (hm:zqw (zdE P kt k kv) es=some es') :
 ∃ w',(Builtin.delete_ ts ty #[.map (some (β.b b)),kv]).run P w=.ok (.tuple #[]) w'/\Rel B F β { st with heap:=st.heap.set b (.map k v cols es') } a w':=by
 obtain ⟨d,hd⟩:=zfB hc
 obtain ⟨Es,clock,h1,h2,ho,h4,h5⟩:=h.heap.blk b _ hb
 have hs:=Ents.of h2 h4 h5
 unfold zqw at hm
 cases hq:mix (zdE P kt k kv) es with
 | none=>rw[hq]at hm;cases hm
 | some q=>
  rw[hq]at hm
  obtain ⟨hf,hj⟩:=zdr (F:=F) (w:=w) (P:=P) hd h2 h4 hq
  cases q with
  | none=>
   cases hm
   refine⟨_,?_,h.mapSet (clock':=clock) hb h1 hs⟩
   simp[Builtin.delete_,ht,Sem.run_bind,run_underlying hu w,Result.andThen,MapKept.run_getObj_map h1,hc,hf,MapKept.run_setObj_map _ h1]
  | some j=>
   cases hm
   refine⟨_,?_,h.mapSet (clock':=clock) hb h1 (hs.erase (hj j rfl).1)⟩
   simp[Builtin.delete_,ht,Sem.run_bind,run_underlying hu w,Result.andThen,MapKept.run_getObj_map h1,hc,hf,MapKept.run_setObj_map _ h1]
end
end Go.Proofs.YtgajeebphoiphaaGreatDoor
end
