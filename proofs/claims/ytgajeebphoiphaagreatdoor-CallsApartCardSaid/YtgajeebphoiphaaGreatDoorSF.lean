import Derived.Test.YtgajeebphoiphaaGreatDoorSC
import Derived.LoopN
set_option linter.unusedVariables false
set_option linter.unusedSimpArgs false
noncomputable section
namespace Go.Proofs.YtgajeebphoiphaaGreatDoor
open Go.RowKit
section
variable {P:Program} {GL:List AV} {G:Gam} {B:Bs} {F:Nat->Prop} {β:Gh} {st:St} {a:Act} {w:World}
theorem ready_iff{ops:Array Oper}{listed:Array Bool}{i:Nat}:i ∈ Region.ready .any ops listed ↔ i<ops.size/\listed.getD i true=false/\∃ o,ops[i]?=some o/\∀ e,e ∈ o.after.toList->Region.binds .any e=true->listed.getD e.on false=true:=by
 unfold Region.ready
 simp only[List.mem_filter,List.mem_range,Bool.and_eq_true,Bool.not_eq_true']
 constructor
 . rintro ⟨h1,h2,h3⟩
   refine⟨h1,h2,?_⟩
   cases ho:ops[i]? with
   | none=>rw[ho]at h3;cases h3
   | some o=>
    rw[ho]at h3
    simp only[Option.map_some,Option.getD_some,Array.all_eq_true_iff_forall_mem,Bool.or_eq_true,Bool.not_eq_true']at h3
    exact⟨o,rfl,fun e he hb=>by
     rcases h3 e (by simpa using he)with h4 | h4
     . rw[hb]at h4;cases h4
     . exact h4⟩
 . rintro ⟨h1,h2,o,ho,h3⟩
   refine⟨h1,h2,?_⟩
   rw[ho]
   simp only[Option.map_some,Option.getD_some,Array.all_eq_true_iff_forall_mem,Bool.or_eq_true,Bool.not_eq_true']
   intro e he
   cases hb:Region.binds .any e with
   | false=>exact .inl rfl
   | true=>exact .inr (h3 e (by simpa using he) hb)
theorem zmp{S:Nat->St}{D:Nat->Option Nat}{L:Nat->Bool}(h : ∀ i,L i=false)(t:Nat) : ∀ n,zcb S D L t n=(S 0).get t
 | 0=>rfl
 | n+1=>by rw[zcb,if_neg (fun q=>by rw[h n]at q;cases q.1)];exact zmp h t n
theorem zmr{S:Nat->St}{W:Nat->List Nat}{L:Nat->Bool}(h : ∀ i,L i=false)(b:Nat) : ∀ n,zcc S W L b n=(S 0).heap.getD b .dead
 | 0=>rfl
 | n+1=>by rw[zcc,if_neg (fun q=>by rw[h n]at q;cases q.1)];exact zmr h b n
theorem zkY (hG:GOk P GL G) {id:Nat} {ops:Array Oper} {draw:Bool} {k:St->Option Ans} {r:Ans} {Q:Exit->Act->World->Prop} (N:Nat)
 (hk : ∀ st' a' w' F' β',Rel B F' β' st' a' w'->st'.gl=GL->st'.np=N->k st'=some r->Q .normal a' w')
 (h:Rel B F β st a w) (hgl:st.gl=GL) (hnp:st.np=N) (hr:zvs P G ops draw st k=some r):(Code.region id ops draw).wp P Q a w:=by
 cases draw with
 | false=>
  refine wp_region_list ?_
  have:=zkX hG ops.toList (Q:=Q) (k:=k) N hk ops.toList F β st a w h hgl hnp hr
  simpa using this
 | true =>
  simp only[zvs]at hr
  split at hr
  . rename_i hmo hed
    obtain ⟨fs,S0,hfl,hS0,hstep,hK⟩:=zkW hr
    simp only[List.nil_append]at hK
    split at hK
    . rename_i hind
      let n:=ops.size
      have hln:ops.toList.length=n:=by simp[n]
      rw[hln]at hK hfl
      let S:Nat->St:=fun i=>S0 (min i n)
      have hSi : ∀ i,i<=n->S i=S0 i:=fun i hi=>by show S0 (min i n)=_;rw[Nat.min_eq_left hi]
      have hSge : ∀ i,n<=i->S (i+1)=S i:=fun i hi=>by show S0 (min (i+1) n)=S0 (min i n);rw[Nat.min_eq_right (by omega),Nat.min_eq_right hi]
      have hS00:S 0=st:=(hSi 0 (Nat.zero_le _)).trans hS0
      have hstep' : ∀ i o,ops[i]?=some o->Step1 P G ops.toList (S i) o (fs.getD i ⟨[],[]⟩) (S (i+1)):=fun i o ho=>by
       have hi:i<n:=(Array.getElem?_eq_some_iff.1 ho).1
       rw[hSi i (by omega),hSi (i+1) hi]
       exact hstep i o (by simpa using ho)
      have hind' : ∀ m k o f o' f',m<k->ops[m]?=some o->fs[m]?=some f->ops[k]?=some o'->fs[k]?=some f'->Nat.testBit ((Region.before ops).getD k 0) m=true ∨ ziS ops.toList o o' f f'=true:=fun m k o f o' f' hmk h1 h2 h3 h4=>by
       have:=ziT hind m k o f o' f' hmk (by simpa using h1) h2 (by simpa using h3) h4
       have e:(Region.before ops).toList.getD (0+k) 0=(Region.before ops).getD k 0:=by rw[Nat.zero_add,List.getD_eq_getElem?_getD,Array.getElem?_toList,Array.getD_eq_getD_getElem?]
       rw[e,Nat.zero_add]at this
       exact this
      have hedge : ∀ i o,ops[i]?=some o->∀ e,e ∈ o.after.toList->Region.binds .any e=true->e.on<i:=fun i o ho e he hb=>by
       have:=zma hed i o (by simpa using ho) e he hb
       omega
      have hlast : ∀ (L:Nat->Bool),(∀ i,i<n->L i=true)->∀ {F' β' T a' w'},Mid B S (fun i=>(ops[i]?).bind (·.dst)) (fun i=>(fs.getD i ⟨[],[]⟩).wr) n L F' β' T a' w'->T=S n:=fun L hall F' β' T a' w' hM=>by
       have hkeep:=fun i o' (ho':ops[i]?=some o')=>(hstep' i o' ho').keeps
       have hE : ∀ t i,(ops[i]?).bind (·.dst) ≠ some t->(S (i+1)).get t=(S i).get t:=fun t i hd=>by
        by_cases hi:i<n
        . have hio:ops[i]?=some ops[i]:=by simp[show i<ops.size by omega]
          exact(hkeep i _ hio).2.2.2.2.2.1 t fun e=>hd (by rw[hio];exact e)
        . rw[hSge i (by omega)]
       have hH : ∀ b i,b ∉ (fs.getD i ⟨[],[]⟩).wr->(S (i+1)).heap.getD b .dead=(S i).heap.getD b .dead:=fun b i hb=>by
        by_cases hi:i<n
        . have hio:ops[i]?=some ops[i]:=by simp[show i<ops.size by omega]
          exact(hkeep i _ hio).2.2.2.2.2.2 b hb
        . rw[hSge i (by omega)]
       have hsame : ∀ i,(S i).env.length=(S 0).env.length/\(S i).gl=(S 0).gl/\(S i).np=(S 0).np/\((S i).df=(S 0).df/\(S i).dp=(S 0).dp):=fun i=>by
        induction i with
        | zero=>exact⟨rfl,rfl,rfl,rfl,rfl⟩
        | succ i ih=>
         by_cases hi:i<n
         . have hio:ops[i]?=some ops[i]:=by simp[show i<ops.size by omega]
           obtain ⟨k1,k2,k3,k4,_⟩:=hkeep i _ hio
           exact⟨k1.trans ih.1,k2.trans ih.2.1,k3.trans ih.2.2.1,k4.1.trans ih.2.2.2.1,k4.2.trans ih.2.2.2.2⟩
         . rw[hSge i (by omega)];exact ih
       obtain ⟨s1,s2,s3,s4⟩:=hsame n
       exact zJ1 (hM.env.trans s1.symm) hM.heap (fun t=>(hM.e t).trans (zj5 (hE t) fun i hi _=>hall i hi)) (fun b=>(hM.h b).trans (zj6 (hH b) fun i hi _=>hall i hi)) (hM.gl.trans s2.symm) (hM.np.trans s3.symm) (hM.df.1.trans s4.1.symm) (hM.df.2.trans s4.2.symm)
      have hend : ∀ (L:Nat->Bool),(∀ i,i<n->L i=true)->∀ {F' β' T a' w'},Mid B S (fun i=>(ops[i]?).bind (·.dst)) (fun i=>(fs.getD i ⟨[],[]⟩).wr) n L F' β' T a' w'->Q .normal a' w':=fun L hall F' β' T a' w' hM=>by
       have e:=hlast L hall hM
       refine hk T a' w' F' β' hM.rel (by rw[hM.gl,hS00];exact hgl) (by rw[hM.np,hS00];exact hnp) ?_
       rw[e,hSi n (Nat.le_refl _)]
       exact hK
      have main : ∀ (fuel:Nat) (listed:Array Bool),listed.size=n->listed.toList.count false=fuel->
       (∀ i,listed.getD i false=true->∀ p,Nat.testBit ((Region.before ops).getD i 0) p=true->listed.getD p false=true)->
       ∀ F' β' T a' w',Mid B S (fun i=>(ops[i]?).bind (·.dst)) (fun i=>(fs.getD i ⟨[],[]⟩).wr) n (fun i=>listed.getD i false) F' β' T a' w'->wpAny P .any ops Q fuel listed a' w':=by
       intro fuel
       induction fuel with
       | zero=>
        intro listed hsz hc hdc F' β' T a' w' hM
        have hall : ∀ i,i<n->listed.getD i false=true:=fun i hi=>by
         have hmem:listed.toList[i]'(by simpa [hsz]using hi) ∈ listed.toList:=List.getElem_mem _
         have hnf:false ∉ listed.toList:=List.count_eq_zero.1 hc
         have:listed[i]'(by omega)=true:=by
          cases hx:listed[i]'(by omega)with
          | true=>rfl
          | false=>rw[Array.getElem_toList,hx]at hmem;exact absurd hmem hnf
         simp[Array.getD,show i<listed.size by omega,this]
        refine⟨?_,hend _ hall hM⟩
        cases hq:Region.ready .any ops listed with
        | nil=>rfl
        | cons x xs=>
         have hx:x ∈ Region.ready .any ops listed:=by rw[hq];simp
         obtain ⟨h1,h2,_⟩:=ready_iff.1 hx
         have:=hall x h1
         simp only[Array.getD,show x<listed.size by omega,dite_true]at this h2
         rw[h2]at this;cases this
       | succ fuel ih=>
        intro listed hsz hc hdc F' β' T a' w' hM
        refine⟨fun hnil=>?_,fun i hi=>?_⟩
        . refine hend _ (fun i=>?_) hM
          induction i using Nat.strongRecOn with
          | _ i ihi=>
           intro hin
           cases hx:listed.getD i false with
           | true=>rfl
           | false=>
            exfalso
            have hio:ops[i]?=some ops[i]:=by simp
            have:i ∈ Region.ready .any ops listed:=ready_iff.2 ⟨hin,by simpa [Array.getD,show i<listed.size by omega]using hx,_,hio,fun e he hb=>ihi e.on (hedge i _ hio e he hb) (by have:=hedge i _ hio e he hb;omega)⟩
            rw[hnil]at this;cases this
        . obtain ⟨h1,h2,o,ho,h3⟩:=ready_iff.1 hi
          have hisz:i<listed.size:=by omega
          have h2':listed.getD i false=false:=by simpa [Array.getD,hisz]using h2
          have hset : ∀ p,(listed.setIfInBounds i true).getD p false=true ↔ listed.getD p false=true ∨ p=i:=fun p=>by
           by_cases hp:p=i
           . subst hp;simp[Array.getD,hisz]
           . simp only[Array.getD,Array.size_setIfInBounds,hp,or_false]
             by_cases hps:p<listed.size
             . simp[hps,Array.getElem_setIfInBounds,show ¬ i=p from fun e=>hp e.symm]
             . simp[hps]
          refine zA7 hG (by rw[hS00];exact hgl) (by rw[hS00];exact h.hn) rfl hfl hstep' hSge hind' (fun p hp=>?_) hdc ho h2' h3 hset hM fun F2 β2 T2 a2 w2 hM2=>ih _ (by simp[hsz]) ?_ (fun p hp q hq=>?_) F2 β2 T2 a2 w2 hM2
          . by_cases hps:p<listed.size
            . omega
            . simp[Array.getD,hps]at hp
          . have e:(listed.setIfInBounds i true).toList=listed.toList.set i true:=by simp
            have hlt:i<listed.toList.length:=by simpa using hisz
            have hb:listed.toList[i]=false:=by simpa [Array.getD,hisz]using h2
            rw[e,List.count_set hlt,hc,hb];simp
          . rw[hset]at hp ⊢
            rcases hp with hp | hp
            . exact .inl (hdc p hp q hq)
            . subst hp
              obtain ⟨o',ho',e,h4,h5,h6⟩:=zkG ops p q hq
              rw[ho]at ho';simp at ho';subst ho'
              have he:=h3 e h4 h5
              rcases h6 with rfl | h6
              . exact .inl he
              . exact .inl (hdc _ he q h6)
      refine wp_region_any hmo (main ops.size _ (by simp[n]) (by simp) (fun i hi=>?_) F β { st with heap:=st.heap++List.replicate ((S n).heap.length-st.heap.length) .dead } a _ ⟨(h.pad _).later ((Below.refl _ _).drew),by rw[hS00],?_,by rw[hS00],by rw[hS00],⟨by rw[hS00],by rw[hS00]⟩,fun t=>?_,fun b=>?_,fun b hb=>.inl (by rw[hS00];exact h.heap.live b hb)⟩)
      . exfalso
        by_cases hin:i<ops.size <;> simp[Array.getD,hin]at hi
      . have hmono : ∀ i,(S 0).heap.length<=(S i).heap.length:=fun i=>by
         induction i with
         | zero=>exact Nat.le_refl _
         | succ i ih=>
          by_cases hi:i<n
          . have hio:ops[i]?=some ops[i]:=by simp[show i<ops.size by omega]
            exact Nat.le_trans ih (hstep' i _ hio).keeps.2.2.2.2.1
          . rw[hSge i (by omega)];exact ih
        have:=hmono n
        rw[hS00]at this
        simp;omega
      . have hno : ∀ i,(Array.replicate ops.size false).getD i false=false:=fun i=>by
         by_cases hin:i<ops.size <;> simp[Array.getD,hin]
        rw[zmp hno,hS00];rfl
      . have hno : ∀ i,(Array.replicate ops.size false).getD i false=false:=fun i=>by
         by_cases hin:i<ops.size <;> simp[Array.getD,hin]
        rw[zmr hno,hS00]
        show(st.heap++_).getD b .dead=_
        rw[zax]
        split
        . rfl
        . rename_i hb
          have:st.heap.getD b .dead=.dead:=by simp[List.getD,List.getElem?_eq_none (Nat.le_of_not_lt hb)]
          rw[this]
          simp only[List.getD,List.getElem?_replicate]
          split <;> rfl
    . cases hK
  . cases hr
end
def exOf:Ex->Exit
 | .normal=>.normal | .exit id=>.exit id | .ret=>.ret
def zdi(H:zab):Nat->Code->List Nat
 | l,.seq a b=>zdi H l a++zdi H l b
 | l,.cond _ a b=>zdi H l a++zdi H l b
 | _,.block id c=>zdi H id c
 | l,.loop c=>(2*l) :: zdi H l c
 | _,.region id _ _=>match H.cut id with | true=>[2*id+1] | false=>[]
 | _,_=>[]
def okL(H:zab):Nat->Code->Bool
 | l,.seq a b=>okL H l a&&okL H l b&&(zdi H l a).all fun x=>!(stepAt.hasLoop H x l b)
 | l,.cond _ a b=>okL H l a&&okL H l b&&(zdi H l a).all fun x=>!(stepAt.hasLoop H x l b)
 | _,.block id c=>okL H id c
 | l,.loop c=>okL H l c&&!(stepAt.hasLoop H (2*l) l c)
 | _,_=>true
theorem zk1(H:zab)(x:Nat) : ∀ (l:Nat) (c:Code),stepAt.hasLoop H x l c=true->x ∈ zdi H l c:=by
 intro l c
 induction c generalizing l with
 | seq a b iha ihb=>
  intro h
  simp only[stepAt.hasLoop]at h
  simp only[zdi,List.mem_append]
  split at h
  . rename_i ha;exact .inl (iha l ha)
  . exact .inr (ihb l h)
 | cond _ a b iha ihb=>
  intro h
  simp only[stepAt.hasLoop]at h
  simp only[zdi,List.mem_append]
  split at h
  . rename_i ha;exact .inl (iha l ha)
  . exact .inr (ihb l h)
 | block id c ih=>intro h;simp only[stepAt.hasLoop]at h;exact ih id h
 | region id ops draw=>
  intro h
  simp only[stepAt.hasLoop]at h
  simp only[zdi]
  split at h
  . rename_i hc
    rw[hc]
    simp[(Nat.eq_of_beq_eq_true h).symm]
  . cases h
 | loop c ih=>
  intro h
  simp only[stepAt.hasLoop]at h
  simp only[zdi,List.mem_cons]
  split at h
  . rename_i he;exact .inl (Nat.eq_of_beq_eq_true he).symm
  . exact .inr (ih l h)
 | _=>intro h;simp[stepAt.hasLoop]at h
structure Cvd(B:Bs)(F:Nat->Prop)(β:Gh)(st:St)(a:Act)(w:World)(F1:Nat->Prop)(β1:Gh)(st1:St):Prop where
 rel:Rel B F1 β1 st1 a w
 sub : ∀ k,F k->F1 k
 le:β.Le β1
 al:Al st st1
 env:st1.env=st.env
 df:st1.df=st.df
section
variable {P:Program} {GL:List AV} {G:Gam} {B:Bs} {F:Nat->Prop} {β:Gh} {st:St} {a:Act} {w:World}
theorem Cvd.refl(h:Rel B F β st a w):Cvd B F β st a w F β st:=⟨h,fun _ h=>h,.refl _,.refl _,rfl,rfl⟩
theorem Cvd.trans{F1 F2:Nat->Prop}{β1 β2:Gh}{st1 st2:St}(h:Cvd B F β st a w F1 β1 st1)(k:Cvd B F1 β1 st1 a w F2 β2 st2):Cvd B F β st a w F2 β2 st2:=
 ⟨k.rel,fun p hp=>k.sub p (h.sub p hp),h.le.trans k.le,h.al.trans k.al,k.env.trans h.env,k.df.trans h.df⟩
theorem Cvd.V{F1:Nat->Prop}{β1:Gh}{st1:St}(h:Cvd B F β st a w F1 β1 st1){x:AV}{y:Value}(hv:V F w β x y):V F1 w β1 x y:=hv.mono (zaO h.sub w) h.le
theorem Frz.cvd{F1:Nat->Prop}{β1:Gh}{st1:St}(h:Frz B F β st a w F1 β1 st1):Cvd B F β st a w F1 β1 st1:=⟨h.rel,h.sub,h.le,h.al,h.env,h.df⟩
theorem zfC(h:Rel B F β st a w){c:Cv}{x y:AV}{st1:St}(hs:st.conv c x=some (y,st1)) : ∃ F1 β1,Cvd B F β st a w F1 β1 st1/\∀ v,V F w β x v->V F1 w β1 y v:=by
 cases c with
 | own e t=>
  simp only[St.conv]at hs
  split at hs
  . simp at hs;obtain ⟨rfl,rfl⟩:=hs
    obtain ⟨β',hR,hle,hv⟩:=h.pushRow (e:=e) (ty:=t) (xs:=[]) (row:=none) (v:=.slice none 0 0) (World.ownsRow_nil w 0 e t.sz) (World.grownBy.refl _ _) (by simp) (fun p hp=>by cases hp) (fun p hp=>by simp[Value.ownBlock]at hp) (cols:=st.dp e) (fun i j e' hi=>by simp at hi) (fun i j hi=>by simp at hi) none
    refine⟨F,β',⟨hR,fun _ h=>h,hle,zfA _ _ none,rfl,rfl⟩,fun v hv'=>?_⟩
    rw[V_v hv'];exact hv
  . simp at hs;obtain ⟨rfl,rfl⟩:=hs
    exact⟨F,β,.refl h,fun v hv=>hv⟩
  . cases hs
 | sl t=>
  simp only[St.conv]at hs
  split at hs
  . simp at hs;obtain ⟨rfl,rfl⟩:=hs
    exact⟨F,β,.refl h,fun v hv=>by rw[V_v hv];exact .sl0 t none _⟩
  . obtain ⟨F1,β1,z,hz⟩:=zdg h hs
    exact⟨F1,β1,z.cvd,hz⟩
  . simp at hs;obtain ⟨rfl,rfl⟩:=hs
    exact⟨F,β,.refl h,fun v hv=>hv⟩
  . cases hs
 | op t=>
  simp only[St.conv]at hs
  split at hs
  . rename_i y' st1' hf
    split at hs
    . rename_i z hz
      simp at hs;obtain ⟨rfl,rfl⟩:=hs
      obtain ⟨F1,β1,z1,d1⟩:=zdh 9 h hf
      exact⟨F1,β1,z1.cvd,fun v hv=>(zad hz (d1 v hv)).ofD⟩
    . cases hs
  . cases hs
 | clo=>
  simp only[St.conv]at hs
  split at hs
  . rename_i y' st1' hf
    split at hs
    . rename_i z hz
      simp at hs;obtain ⟨rfl,rfl⟩:=hs
      obtain ⟨F1,β1,z1,d1⟩:=zdh 9 h hf
      exact⟨F1,β1,z1.cvd,fun v hv=>(zaf hz (d1 v hv)).ofD⟩
    . cases hs
  . cases hs
 | un=>
  simp only[St.conv]at hs
  split at hs
  . rename_i z hz
    simp at hs;obtain ⟨rfl,rfl⟩:=hs
    exact⟨F,β,.refl h,fun v hv=>zap hz hv⟩
  . cases hs
 | fnc=>
  simp only[St.conv]at hs
  split at hs
  . simp at hs;obtain ⟨rfl,rfl⟩:=hs
    exact⟨F,β,.refl h,fun v hv=>hv⟩
  . simp at hs;obtain ⟨rfl,rfl⟩:=hs
    exact⟨F,β,.refl h,fun v hv=>hv⟩
  . cases hs
 | mv e t=>
  simp only[St.conv]at hs
  split at hs
  . simp at hs;obtain ⟨rfl,rfl⟩:=hs
    obtain ⟨β',hR,hle,hv⟩:=h.pushRow (e:=e) (ty:=t) (xs:=[]) (row:=none) (v:=.slice none 0 0) (World.ownsRow_nil w 0 e t.sz) (World.grownBy.refl _ _) (by simp) (fun p hp=>by cases hp) (fun p hp=>by simp[Value.ownBlock]at hp) (cols:=st.dp e) (fun i j e' hi=>by simp at hi) (fun i j hi=>by simp at hi) none
    refine⟨F,β',⟨hR,fun _ h=>h,hle,zfA _ _ none,rfl,rfl⟩,fun v hv'=>?_⟩
    rw[V_v hv'];exact hv
  . rename_i b
    split at hs
    . rename_i e' t' xs hb
      simp at hs;obtain ⟨rfl,rfl⟩:=hs
      obtain ⟨Vs,T,u⟩:=znS h hb 0
      have hlen:xs.length<=140737488355328:=by obtain ⟨_,_,h2,_⟩:=h.heap.blk b _ hb;exact h2
      obtain ⟨β',hR,hle,hv⟩:=u.rel.pushRow (cols:=[]) (row:=(β.v b).ownBlock) u.own (World.grownBy.refl _ _) hlen (fun p hp=>by
       obtain ⟨q1,q2,q3⟩:=u.sep p hp
       exact⟨q1,q2,fun c k s' hc ho=>q3 c k s' hc ho⟩) (fun p hp=>.inl hp) (fun i j e2 hi hj hc=>by cases hc) (fun i j hi hj=>by have:=u.cell i j hi hj;exact this) none
      have hhl:(st.heap.set b .dead).length=st.heap.length:=List.length_set
      refine⟨F,β',⟨hR,fun _ h=>h,hle,⟨rfl,rfl,by simp⟩,rfl,rfl⟩,fun v hv'=>?_⟩
      obtain ⟨_,hvb,_⟩:=zdw hv'
      rw[hvb]
      have hv2:=hv
      simp only[hhl]at hv2
      exact hv2
    . cases hs
  . cases hs
 | home=>
  simp only[St.conv]at hs
  split at hs
  . rename_i b
    simp at hs;obtain ⟨rfl,rfl⟩:=hs
    obtain ⟨β1,h1,h2,h3⟩:=zk3 (st:=st) (hp:=st.heap) h b
    exact⟨F,β1,⟨h1,fun _ h=>h,h2,⟨rfl,rfl,by simp only[h3];exact Nat.le_refl _⟩,rfl,rfl⟩,fun v hv=>hv.mono (zaO (fun _ h=>h) w) h2⟩
  . cases hs
 | low c=>
  simp only[St.conv]at hs
  split at hs
  . rename_i b
    split at hs
    . rename_i e ty cols hole xs hb
      simp at hs;obtain ⟨rfl,rfl⟩:=hs
      exact⟨F,β,⟨zxP h hb c,fun _ h=>h,.refl _,⟨rfl,rfl,by simp⟩,rfl,rfl⟩,fun v hv=>hv⟩
    . cases hs
  . cases hs
 | nilp=>
  simp only[St.conv]at hs
  split at hs
  . simp at hs;obtain ⟨rfl,rfl⟩:=hs
    exact⟨F,β,.refl h,fun v hv=>hv⟩
  . cases hs
 | ift t=>
  simp only[St.conv]at hs
  split at hs
  . split at hs
    . simp at hs;obtain ⟨rfl,rfl⟩:=hs
      exact⟨F,β,.refl h,fun v hv=>hv⟩
    . cases hs
  . cases hs
theorem zi7{α:Type}{l:List α}{i j:Nat}{x d:α}:(l.set i x).getD j d=if j=i/\i<l.length then x else l.getD j d:=by
 simp only[List.getD,List.getElem?_set]
 by_cases h:i=j
 . subst h
   by_cases h':i<l.length <;> simp[h']
 . simp[h,show ¬ j=i from fun e=>h e.symm]
theorem zrO (h:Rel B F β st a w) {l l1:List AV} {at_:At} {c:Cv} {st1:St} (hs:st.conv1 l at_ c=some (l1,st1)) {Y:Nat->Value} (hv : ∀ j,V F w β (l.getD j .undef) (Y j)) :
 ∃ F1 β1,Cvd B F β st a w F1 β1 st1/\l1.length=l.length/\∀ j,V F1 w β1 (l1.getD j .undef) (Y j):=by
 have inner : ∀ {i j:Nat} {cs:List AV} {x y:AV} {F1:Nat->Prop} {β1:Gh} {st1:St} (ys:Array Value),cs[j]?=some x->Cvd B F β st a w F1 β1 st1->(∀ v,V F w β x v->V F1 w β1 y v)->
  (∀ q,q<cs.length->V F w β (cs.getD q .undef) (ys.getD q undef))->∀ q,q<(cs.set j y).length->V F1 w β1 ((cs.set j y).getD q .undef) (ys.getD q undef):=fun {i j cs x y F1 β1 st1} ys hx z hz hc q hq=>by
  have hq':q<cs.length:=by simpa using hq
  rw[zi7]
  split
  . rename_i e
    obtain ⟨rfl,_⟩:=e
    have:=hc q hq'
    have e2:cs.getD q .undef=x:=by simp[List.getD,hx]
    rw[e2]at this
    exact hz _ this
  . exact z.V (hc q hq')
 cases at_ with
 | slot i=>
  simp only[St.conv1]at hs
  split at hs
  . rename_i x hx
    split at hs
    . rename_i y st1' hy
      simp at hs;obtain ⟨rfl,rfl⟩:=hs
      obtain ⟨F1,β1,z,hz⟩:=zfC h hy
      refine⟨F1,β1,z,by simp,fun j=>?_⟩
      rw[zi7]
      split
      . rename_i e
        obtain ⟨rfl,_⟩:=e
        have:=hv j
        have e2:l.getD j .undef=x:=by simp[List.getD,hx]
        rw[e2]at this
        exact hz _ this
      . exact z.V (hv j)
    . cases hs
  . cases hs
 | cell i j=>
  simp only[St.conv1]at hs
  split at hs
  . rename_i cs hx
    split at hs
    . rename_i x hxx
      split at hs
      . rename_i y st1' hy
        simp at hs;obtain ⟨rfl,rfl⟩:=hs
        obtain ⟨F1,β1,z,hz⟩:=zfC h hy
        refine⟨F1,β1,z,by simp,fun q=>?_⟩
        rw[zi7]
        split
        . rename_i e
          obtain ⟨rfl,_⟩:=e
          have:=hv q
          have e2:l.getD q .undef=.agg cs:=by simp[List.getD,hx]
          rw[e2]at this
          generalize Y q=yv at this
          obtain ⟨ys,rfl,hl,hc⟩:=ziy this
          exact .agg _ _ (by simpa using hl) (inner (i:=0) ys hxx z hz hc)
        . exact z.V (hv q)
      . cases hs
    . cases hs
  . rename_i cs hx
    split at hs
    . rename_i x hxx
      split at hs
      . rename_i y st1' hy
        simp at hs;obtain ⟨rfl,rfl⟩:=hs
        obtain ⟨F1,β1,z,hz⟩:=zfC h hy
        refine⟨F1,β1,z,by simp,fun q=>?_⟩
        rw[zi7]
        split
        . rename_i e
          obtain ⟨rfl,_⟩:=e
          have:=hv q
          have e2:l.getD q .undef=.tup cs:=by simp[List.getD,hx]
          rw[e2]at this
          generalize Y q=yv at this
          obtain ⟨ys,rfl,hl,hc⟩:=zEA this
          exact .tup _ _ (by simpa using hl) (inner (i:=0) ys hxx z hz hc)
        . exact z.V (hv q)
      . cases hs
    . cases hs
  . cases hs
 | box i j=>
  simp only[St.conv1]at hs
  split at hs
  . rename_i b off hx
    split at hs
    . rename_i e cs hb
      split at hs
      . rename_i x hxx
        split at hs
        . rename_i y st1' hy
          split at hs
          . rename_i e2 cs2 hb2
            simp at hs;obtain ⟨rfl,rfl⟩:=hs
            obtain ⟨F1,β1,z,hz⟩:=zfC h hy
            obtain ⟨ys,T,g1,g2,g3,g4⟩:=h.heap.blk b _ hb
            obtain ⟨ys2,T2,k1,k2,k3,k4⟩:=z.rel.heap.blk b _ hb2
            have hlive:β.l b:=by
             have:=hv i
             have e2:l.getD i .undef=.ref b off:=by simp[List.getD,hx]
             rw[e2]at this
             exact(zhC this).1
            have hbb:=(z.le b hlive).2.1
            have hR:Rel B F1 β1 { st1' with heap:=st1'.heap.set b (.cells e (cs.set j y)) } a w:=by
             refine z.rel.heapTo (zaO (fun _ h=>h) w) (.refl _) z.rel.kept z.rel.fo (fun _ h=>h) z.rel.lo (fun _ hb=>.inl hb) (by simp) (z.rel.heap.step b (zaO (fun _ h=>h) w) (.refl _) z.rel.heap.fb z.rel.heap.lt z.rel.heap.sep (fun c hc=>by rw[List.length_set];exact z.rel.heap.live c hc) (fun c k hc hk=>zak hc hk)
              (fun c _ _ _ _=>⟨⟨rfl,rfl⟩,fun p s hp=>⟨hp,rfl⟩⟩) fun k hk=>?_)
             obtain rfl:=zT hk
             exact⟨ys,T,by rw[hbb];exact g1,by simpa using g2,k3,inner (i:=0) ys hxx z hz g4⟩
            exact⟨F1,β1,⟨hR,z.sub,z.le,z.al.trans (zb3 _ _ (by simp)),z.env,z.df⟩,rfl,fun q=>z.V (hv q)⟩
          . cases hs
        . cases hs
      . cases hs
    . cases hs
  . cases hs
theorem zge : ∀ {cs:List (At × Cv)} {l l1:List AV} {F:Nat->Prop} {β:Gh} {st st1:St},Rel B F β st a w->st.convs l cs=some (l1,st1)->∀ {Y:Nat->Value},(∀ j,V F w β (l.getD j .undef) (Y j))->
 ∃ F1 β1,Cvd B F β st a w F1 β1 st1/\l1.length=l.length/\∀ j,V F1 w β1 (l1.getD j .undef) (Y j)
 | [],l,l1,F,β,st,st1,h,hs,Y,hv=>by
  simp[St.convs]at hs
  obtain ⟨rfl,rfl⟩:=hs
  exact⟨F,β,.refl h,rfl,hv⟩
 | (at_,c) :: cs,l,l1,F,β,st,st2,h,hs,Y,hv=>by
  simp only[St.convs]at hs
  split at hs
  . rename_i l' st1 hc
    obtain ⟨F1,β1,z1,e1,v1⟩:=zrO h hc hv
    obtain ⟨F2,β2,z2,e2,v2⟩:=zge z1.rel hs v1
    exact⟨F2,β2,z1.trans z2,e2.trans e1,v2⟩
  . cases hs
theorem zkP(l:List Nat) : ∀ (i:Nat) (cs:List AV),(zd0 l i cs).length=cs.length/\∀ j,(zd0 l i cs).getD j .undef=.undef ∨ (zd0 l i cs).getD j .undef=cs.getD j .undef
 | i,[]=>by simp[zd0]
 | i,c :: cs=>by
  obtain ⟨h1,h2⟩:=zkP l (i+1) cs
  refine⟨by simp[zd0,h1],fun j=>?_⟩
  cases j with
  | zero=>
   simp only[zd0,List.getD_cons_zero]
   split
   . exact .inl rfl
   . exact .inr rfl
  | succ j=>simpa [zd0]using h2 j
theorem zh0(h:Rel B F β st a w){hd:Hd}{k:St->Option Ans}{r:Ans}(hr:st.head hd k=some r) : ∃ st' F' β',Rel B F' β' st' a w/\st'.gl=st.gl/\st'.np=st.np/\k st'=some r:=by
 unfold St.head at hr
 split at hr
 . rename_i l st1 hc
   obtain ⟨c1,c2⟩:=zkP hd.clear 0 st.env
   obtain ⟨F1,β1,z,hl,hv⟩:=zge h hc (Y:=fun t=>a.tmps.getD t undef) (fun j=>by
    rcases c2 j with e | e
    . rw[e];exact .undef _
    . rw[e];exact h.env j)
   generalize zcZ st1.heap 4000 (List.range st.np) (zke (st1.heap.take st.np)++zbT l++st1.df.flatMap (fun d=>zbT d.2))=ids at hr
   dsimp only at hr
   split at hr
   . rename_i h1 h2
     have hR:Rel B F1 β1 { st1 with env:=l } a w:=⟨by rw[show({ st1 with env:=l }:St).env=l from rfl,hl,c1];exact h.len,hv,z.rel.gl,z.rel.df,z.rel.kept,z.rel.fo,z.rel.fi,z.rel.lo,z.rel.per,z.rel.bn,z.rel.nw,z.rel.hn,z.rel.heap⟩
     have hnp:st1.np=st.np:=z.al.2.1
     exact⟨_,_,_,hR.sub (nodupB_iff.1 h1) (by show St.head.idxs ids st1.np=st1.np;rw[hnp];exact Nat.eq_of_beq_eq_true h2),z.al.1,hnp,hr⟩
   . cases hr
 . cases hr
def Mt(B:Bs)(GL:List AV)(N:Nat)(r:Ans)(k:Kn)(Q:Exit->Act->World->Prop):Prop:=
 ∀ e st a w F β,Rel B F β st a w->(st.gl=GL/\st.np=N)->k e st=some r->Q (exOf e) a w
theorem zAL{N:Nat}{r:Ans}{id:Nat}{k:Kn}{Q:Exit->Act->World->Prop}(h:Mt B GL N r k Q):Mt B GL N r (zr8 id k) (Exit.inBlock id Q):=by
 intro e st a w F β hR hgl hk
 cases e with
 | normal=>exact h .normal st a w F β hR hgl hk
 | ret=>exact h .ret st a w F β hR hgl hk
 | exit j=>
  simp only[zr8]at hk
  simp only[exOf,Exit.inBlock]
  split at hk
  . rename_i he
    rw[if_pos (Nat.eq_of_beq_eq_true he)]
    exact h .normal st a w F β hR hgl hk
  . rename_i he
    rw[if_neg (fun e=>by rw[e]at he;simp at he)]
    exact h (.exit j) st a w F β hR hgl hk
theorem zAz {H:zab} (hG:GOk P GL G) (J:Nat->Jmp) (hJ0 : ∀ l st,J 0 l st=none) {N:Nat} {r:Ans} : ∀ (c:Code) (l:Nat),okL H l c=true->∀ (M:Nat) (k:Nat->Kn) (Q:Exit->Act->World->Prop),(∀ n,n<M->Mt B GL N r (k n) Q)->
 (∀ at_,stepAt.hasLoop H at_ l c=true->∀ n,n<M->∀ st,J (n+1) at_ st=stepAt P G H (J n) at_ l c (k n) st)->
 ∀ n,n<M->∀ st a w F β,Rel B F β st a w->(st.gl=GL/\st.np=N)->ev P G H (J n) l c (k n) st=some r->c.wp P Q a w:=by
 intro c
 induction c with
 | skip=>intro l _ M k Q hk _ n hn st a w F β h hgl hr;exact wp_skip (hk n hn .normal st a w F β h hgl hr)
 | region id ops draw=>
  intro l _ M k Q hk hJ n hn st a w F β h hgl hr
  simp only[ev]at hr
  split at hr
  . rename_i hc
    obtain ⟨st2,F2,β2,hR2,hg2,hn2,hJ2⟩:=zh0 h hr
    cases n with
    | zero=>rw[hJ0]at hJ2;cases hJ2
    | succ m=>
     rw[hJ (2*id+1) (by simp[stepAt.hasLoop,hc]) m (by omega) st2]at hJ2
     simp only[stepAt,Nat.beq_refl]at hJ2
     exact zkY hG N (fun st' a' w' F' β' hR hgl' hnp' hk'=>hk m (by omega) .normal st' a' w' F' β' hR ⟨hgl',hnp'⟩ hk') hR2 (hg2.trans hgl.1) (hn2.trans hgl.2) hJ2
  . exact zkY hG N (fun st' a' w' F' β' hR hgl' hnp' hk'=>hk n hn .normal st' a' w' F' β' hR ⟨hgl',hnp'⟩ hk') h hgl.1 hgl.2 hr
 | seq x y ihx ihy=>
  intro l ho M k Q hk hJ n hn st a w F β h hgl hr
  simp only[okL,Bool.and_eq_true,List.all_eq_true]at ho
  obtain ⟨⟨ho1,ho2⟩,ho3⟩:=ho
  refine wp_seq (ihx l ho1 M (fun n=>zyc (ev P G H (J n) l y (k n)) (k n)) _ (fun n hn e st a w F β hR hgl hk'=>?_) (fun at_ hl n hn st=>?_) n hn st a w F β h hgl hr)
  . cases e with
    | normal=>
     refine ihy l ho2 M k Q hk (fun at_ hl n hn st=>?_) n hn st a w F β hR hgl hk'
     rw[hJ at_ (by simp only[stepAt.hasLoop];split <;> first | rfl | exact hl) n hn st]
     simp only[stepAt]
     cases hx:stepAt.hasLoop H at_ l x with
     | true=>have:=ho3 at_ (zk1 H at_ l x hx);simp[hl]at this
     | false=>rfl
    | exit id=>exact hk n hn (.exit id) st a w F β hR hgl hk'
    | ret=>exact hk n hn .ret st a w F β hR hgl hk'
  . rw[hJ at_ (by simp only[stepAt.hasLoop,hl]) n hn st]
    simp only[stepAt,hl]
 | cond c x y ihx ihy=>
  intro l ho M k Q hk hJ n hn st a w F β h hgl hr
  simp only[okL,Bool.and_eq_true,List.all_eq_true]at ho
  obtain ⟨⟨ho1,ho2⟩,ho3⟩:=ho
  simp only[ev]at hr
  split at hr
  . rename_i t hc
    have hv:=h.ev c;rw[hc]at hv
    have hset:st.setOp c t=st:=by
     unfold St.setOp
     split
     . exact zqO hc
     . rfl
    cases t with
    | true=>
     rw[hset]at hr
     refine wp_cond_true (V_v hv) (ihx l ho1 M k Q hk (fun at_ hl n hn st=>?_) n hn st a w F β h hgl hr)
     rw[hJ at_ (by simp only[stepAt.hasLoop,hl]) n hn st]
     simp only[stepAt,hl]
    | false=>
     rw[hset]at hr
     refine wp_cond_false (V_v hv) (ihy l ho2 M k Q hk (fun at_ hl n hn st=>?_) n hn st a w F β h hgl hr)
     rw[hJ at_ (by simp only[stepAt.hasLoop];split <;> first | rfl | exact hl) n hn st]
     simp only[stepAt]
     cases hx:stepAt.hasLoop H at_ l x with
     | true=>have:=ho3 at_ (zk1 H at_ l x hx);simp[hl]at this
     | false=>rfl
  . cases hr
 | block id c ih=>
  intro l ho M k Q hk hJ n hn st a w F β h hgl hr
  exact wp_block (ih id ho M (fun n=>zr8 id (k n)) _ (fun n hn=>zAL (hk n hn)) (fun at_ hl n hn st=>hJ at_ hl n hn st) n hn st a w F β h hgl hr)
 | loop c ih=>
  intro l ho M k Q hk hJ n hn st a w F β h hgl hr
  simp only[okL,Bool.and_eq_true]at ho
  obtain ⟨ho1,ho2⟩:=ho
  have hself:stepAt.hasLoop H (2*l) l (.loop c)=true:=by simp[stepAt.hasLoop]
  have key : ∀ m,m<M->∀ j,j<=m->∀ st a w F β,Rel B F β st a w->(st.gl=GL/\st.np=N)->J j (2*l) st=some r->Code.rounds P c Q m a w:=by
   intro m
   induction m with
   | zero=>
    intro hm j hj st a w F β hR hgl hJj
    obtain rfl:j=0:=by omega
    rw[hJ0]at hJj;cases hJj
   | succ m ihm=>
    intro hm j hj st a w F β hR hgl hJj
    cases j with
    | zero=>rw[hJ0]at hJj;cases hJj
    | succ j=>
     rw[hJ (2*l) hself j (by omega) st]at hJj
     simp only[stepAt,Nat.beq_refl]at hJj
     rw[rounds_succ]
     refine ih l ho1 (j+1) (fun n=>zyc (fun st=>st.head (H.head (2*l)) (J n (2*l))) (k n)) _ (fun i hi e st' a' w' F' β' hR' hgl' hk'=>?_) (fun at_ hl i hi st'=>?_) j (by omega) st a w F β hR hgl hJj
     . cases e with
       | normal=>
        obtain ⟨st2,F2,β2,hR2,hg2,hn2,hJ2⟩:=zh0 hR' hk'
        exact ihm (by omega) i (by omega) st2 a' w' F2 β2 hR2 ⟨hg2.trans hgl'.1,hn2.trans hgl'.2⟩ hJ2
       | exit id=>exact hk i (by omega) (.exit id) st' a' w' F' β' hR' hgl' hk'
       | ret=>exact hk i (by omega) .ret st' a' w' F' β' hR' hgl' hk'
     . rw[hJ at_ (by simp only[stepAt.hasLoop];split <;> first | rfl | exact hl) i (by omega) st']
       simp only[stepAt]
       cases hb:Nat.beq (2*l) at_ with
       | true=>
        have e:=Nat.eq_of_beq_eq_true hb
        subst e
        simp[hl]at ho2
       | false=>rfl
  obtain ⟨st2,F2,β2,hR2,hg2,hn2,hJ2⟩:=zh0 h hr
  exact wp_loop_rounds n (key n hn n (Nat.le_refl _) st2 a w F2 β2 hR2 ⟨hg2.trans hgl.1,hn2.trans hgl.2⟩ hJ2)
 | exit id=>intro l _ M k Q hk _ n hn st a w F β h hgl hr;exact wp_exit (hk n hn (.exit id) st a w F β h hgl hr)
 | ret=>intro l _ M k Q hk _ n hn st a w F β h hgl hr;exact wp_ret (hk n hn .ret st a w F β h hgl hr)
 | rangeFunc=>intro l _ M k Q hk _ n hn st a w F β h hgl hr;simp[ev]at hr
 | scope=>intro l _ M k Q hk _ n hn st a w F β h hgl hr;simp[ev]at hr
 | label=>intro l _ M k Q hk _ n hn st a w F β h hgl hr;simp[ev]at hr
 | goto=>intro l _ M k Q hk _ n hn st a w F β h hgl hr;simp[ev]at hr
 | refuse=>intro l _ M k Q hk _ n hn st a w F β h hgl hr;simp[ev]at hr
end
section
variable {P:Program} {GL:List AV} {G:Gam} {H:zab} {B:Bs} {F:Nat->Prop} {β:Gh} {st:St} {a:Act} {w:World}
def zqM(tmps:Array Value):ResultVar->Sem Value
 | .tmp t=>pure (tmps.getD t undef)
 | .cell b t=>do loadVar t (← asAddr (tmps.getD b undef))
theorem zuE(fn:Func)(tmps:Array Value):results fn tmps=(do let vs ← fn.results.mapM (zqM tmps);pure (if h:vs.size=1 then vs[0]else .tuple vs)):=by
 unfold results
 congr 1
theorem zmS(h:Rel B F β st a w) : ∀ (l:List ResultVar) (xs:List AV),zlu P st l=some xs->∃ ys:List Value,(l.mapM (zqM a.tmps)).run P w=.ok ys w/\ys.length=xs.length/\∀ j,j<xs.length->V F w β (xs.getD j .undef) (ys.getD j undef)
 | [],xs,hx=>by simp[zlu]at hx;subst hx;exact⟨[],by simp,rfl,fun j hj=>by simp at hj⟩
 | .tmp t :: l,xs,hx=>by
  simp only[zlu]at hx
  split at hx
  . rename_i xs' ho
    simp at hx;subst hx
    obtain ⟨ys,h1,h2,h3⟩:=zmS h l xs' ho
    refine⟨a.tmps.getD t undef :: ys,by simp only[List.mapM_cons,zqM,Sem.run_bind,Sem.run_pure,Result.andThen_ok,h1],by simp[h2],fun j hj=>?_⟩
    cases j with
    | zero=>exact h.env t
    | succ j=>simpa using h3 j (by simpa using hj)
  . cases hx
 | .cell b ty :: l,xs,hx=>by
  simp only[zlu]at hx
  split at hx
  . rename_i y xs' hl ho
    simp at hx;subst hx
    obtain ⟨ys,h1,h2,h3⟩:=zmS h l xs' ho
    obtain ⟨z,hz,hrun⟩:=zmw (P:=P) h.heap (h.env b) hl
    have hld:(do loadVar ty (← asAddr (a.tmps.getD b undef)):Sem Value).run P w=.ok z w:=by
     unfold Instr.loadAt at hrun
     generalize a.tmps.getD b undef=q at hrun ⊢
     cases q <;> simp[Instr.sureAddr,stuck,Sem.run,Sem.run_bind,Result.andThen]at hrun
     rename_i p
     cases p with
     | none=>simp[Instr.sureAddr,stuck,Sem.run,Result.andThen]at hrun
     | some p=>simpa [asAddr,Sem.run_bind,Instr.sureAddr]using hrun
    refine⟨z :: ys,by rw[List.mapM_cons,Sem.run_bind,show(zqM a.tmps (.cell b ty)).run P w=.ok z w from hld];simp only[Result.andThen_ok,Sem.run_bind,h1,Sem.run_pure],by simp[h2],fun j hj=>?_⟩
    cases j with
    | zero=>exact hz
    | succ j=>simpa using h3 j (by simpa using hj)
  . cases hx
theorem zOT{xs:List AV}{ys:List Value}(hl:ys.length=xs.length)(h : ∀ j,V F w β (xs.getD j .undef) (ys.getD j undef)):V F w β (one xs) (if h:ys.toArray.size=1 then ys.toArray[0]else .tuple ys.toArray):=by
 match xs,ys,hl with
 | [x],[y],_=>simpa [one]using h 0
 | [],[],_=>exact .tup _ _ rfl (fun j hj=>by simp at hj)
 | x1 :: x2 :: xs,y1 :: y2 :: ys,hl=>
  have e:(if h:(y1 :: y2 :: ys).toArray.size=1 then(y1 :: y2 :: ys).toArray[0]else Value.tuple (y1 :: y2 :: ys).toArray)=.tuple (y1 :: y2 :: ys).toArray:=by simp
  rw[e]
  exact .tup _ _ (by simpa using hl) fun j hj=>by rw[zCC];exact h j
def zrS(w:World)(F:Nat->Prop)(β:Gh):Bs:=⟨w,fun p=>β.o p ≠ none,F,β⟩
theorem zuk{w0:World}{F0:Nat->Prop}{β0:Gh}(h:Rel (zrS w0 F0 β0) F β st a w){fn:Func}{l l':List AV}{st1:St}{an:Ans}(hl:zlu P st fn.results.toList=some l)(hc:st.convs (l++st.env) H.fin=some (l',st1))(hg:zuj st1 (l'.take l.length)=some an) :
 ∃ y,(results fn a.tmps).run P w=.ok y w/\Aft F0 w0 β0 st.np an y w:=by
 obtain ⟨ys,h1,h2,h3⟩:=zmS (P:=P) h _ l hl
 have h3' : ∀ j,V F w β ((l++st.env).getD j .undef) (if j<l.length then ys.getD j undef else a.tmps.getD (j-l.length) undef):=fun j=>by
  by_cases hj:j<l.length
  . rw[if_pos hj,zax,if_pos hj];exact h3 j hj
  . rw[if_neg hj,zax,if_neg hj];exact h.env (j-l.length)
 obtain ⟨F1,β1,z,zl,zv0⟩:=zge h hc h3'
 rw[List.length_append]at zl
 have hlen:ys.length=(l'.take l.length).length:=by rw[List.length_take];omega
 have zv : ∀ j,V F1 w β1 ((l'.take l.length).getD j .undef) (ys.getD j undef):=fun j=>by
  by_cases hj:j<l.length
  . have:=zv0 j
    rw[if_pos hj]at this
    have e:(l'.take l.length).getD j .undef=l'.getD j .undef:=by simp[List.getD,List.getElem?_take,hj]
    rw[e];exact this
  . have:(l'.take l.length).getD j .undef=.undef:=by
     simp[List.getD,List.getElem?_take,hj]
    rw[this];exact .undef _
 refine⟨if h:ys.toArray.size=1 then ys.toArray[0]else .tuple ys.toArray,?_,?_⟩
 . rw[zuE,Sem.run_bind,Array.mapM_eq_mapM_toList]
   simp only[Sem.run_map,h1]
   simp
 . unfold zuj at hg
   generalize zcZ st1.heap 4000 (List.range st1.np) (zke (st1.heap.take st1.np)++zbT (l'.take l.length))=ids at hg
   dsimp only at hg
   split at hg
   . rename_i n1 n2
     simp at hg;subst hg
     have hn:=nodupB_iff.1 n1
     have hR:=z.rel.sub hn (Nat.eq_of_beq_eq_true n2)
     have hnp:st1.np=st.np:=z.al.2.1
     refine⟨F1,β1.sub ids,hR.kept,hR.fi,hR.fo,hR.lo,hR.per,fun j hj=>?_,hR.heap,?_⟩
     . have:=hR.nw j hj
       rw[← hnp];exact this
     . exact zCo 9 (zOT hlen zv)
   . cases hg
theorem zrP{ds:List Deferred}(h:DfOk F w β [] ds):ds=[]:=by cases ds with | nil=>rfl | cons=>exact h.elim
theorem zDl{f:FuncId}{args:Array Value}{w:World}{R R':Ending->World->Prop}(h:CD P f args w R)(hr : ∀ e w',R e w'->R' e w'):CD P f args w R':=
 fun u=>(h u).mono fun e u' w' ⟨h1,h2⟩=>⟨h1,hr e w' h2⟩
theorem zla{fn:Func}{w0:World}{F0:Nat->Prop}{β0:Gh}{N:Nat}{k:St->Option Ans}{an:Ans}{R:Ending->World->Prop}{D:Gam}(hD:zrx (CD P) P GL D)
 (hk : ∀ st' F' β' w' (a':Act),a'.tmps=a.tmps->Rel (zrS w0 F0 β0) F' β' st' a' w'->st'.df=[]->st'.gl=GL->st'.np=N->k st'=some an->∃ v,(results fn a.tmps).run P w'=.ok v w'/\R (.returned v) w') :
 ∀ (l:List (FuncId × List AV)) (ds:List Deferred) (F:Nat->Prop) (β:Gh) (st:St) (w:World),Rel (zrS w0 F0 β0) F β { st with df:=l } { a with defers:=ds } w->st.gl=GL->st.np=N->
  zo5 D l { st with df:=l } k=some an->Leaves P fn a.tmps R ds .returning w
 | [],ds,F,β,st,w,h,hgl,hnp,hr=>by
  have:=zrP h.df
  simp only at this
  subst this
  simp only[zo5]at hr
  exact hk _ F β w { a with defers:=[] } rfl h rfl hgl hnp hr
 | (f,as) :: l,[],F,β,st,w,h,hgl,hnp,hr=>h.df.elim
 | (f,as) :: l,d :: ds,F,β,st,w,h,hgl,hnp,hr=>by
  obtain ⟨⟨cap,h1,h2,h3⟩,h4⟩:=h.df
  have hR:Rel (zrS w0 F0 β0) F β { st with df:=l } { a with defers:=ds } w:=⟨h.len,h.env,h.gl,h4,h.kept,h.fo,h.fi,h.lo,h.per,h.bn,h.nw,h.hn,h.heap⟩
  simp only[zo5]at hr
  have hent:Ent P F w β (.func (.func f) #[] cap) d.args (.f f) as:=fun hn=>by
   refine⟨(d.args++cap).toList,fun w'=>?_,by simpa using h2,fun j hj=>by rw[zbF];exact h3 j hj⟩
   have:=zdZ hn (d.args++cap) w'
   simp[Deferred.ofValue,invoke,Sem.run_bind,this]
  obtain ⟨n,us,e1,e2⟩:=zfF (C:=CD P) (fun h hr=>zDl h hr) hD hR hgl hr hent
  have hinv:(invoke d.target d.args).run P w=.ok (.enter n us.toArray) w:=by
   have:=e1 w
   simp only[Deferred.ofValue,Sem.run_bind,Sem.run_pure,Result.andThen_ok,Array.empty_append]at this
   rw[h1];exact this
  refine⟨by simp,.func f,cap,n,us.toArray,h1,hinv,(e2 .returning).mono fun e u' w' ⟨hu,z,hz,F',β',x,st',hR',hA,henv,hdf,hv,hkk⟩=>?_⟩
  subst hz hu
  have hst:({ st' with df:=l }:St)=st':=by
   have:st'.df=l:=hdf
   rw[← this]
  refine zla hD hk l ds F' β' st' w' (by rw[hst];exact hR') (hA.1.trans hgl) (hA.2.1.trans hnp) ?_
  rw[hst];exact hkk
theorem zuh{w0:World}{F0:Nat->Prop}{β0:Gh}(hD:zrx (CD P) P GL H.dfr)(h:Rel (zrS w0 F0 β0) F β st a w)(hgl:st.gl=GL){fn:Func}{e:Ex}{an:Ans}(hr:fin P H fn e st=some an) :
 (e=.normal ∨ e=.ret)/\Leaves P fn a.tmps (fun en w'=>∃ y,en=.returned y/\Aft F0 w0 β0 st.np an y w') a.defers .returning w:=by
 have he:e=.normal ∨ e=.ret:=by cases e with | exit id=>simp[fin]at hr | normal=>exact .inl rfl | ret=>exact .inr rfl
 refine⟨he,?_⟩
 have hr':(match st.df with
  | []=>match zlu P st fn.results.toList with
   | some l=>match st.convs (l++st.env) H.fin with
    | some (l',st1)=>zuj st1 (l'.take l.length)
    | none=>none
   | none=>none
  | d :: r=>zo5 H.dfr (d :: r) st fun st=>match zlu P st fn.results.toList with
   | some l=>match st.convs (l++st.env) H.fin with
    | some (l',st1)=>zuj st1 (l'.take l.length)
    | none=>none
   | none=>none)=some an:=by rcases he with rfl | rfl <;> exact hr
 clear hr
 have last : ∀ st' F' β' w' (a':Act),a'.tmps=a.tmps->Rel (zrS w0 F0 β0) F' β' st' a' w'->st'.df=[]->st'.gl=GL->st'.np=st.np->(match zlu P st' fn.results.toList with
  | some l=>match st'.convs (l++st'.env) H.fin with
   | some (l',st1)=>zuj st1 (l'.take l.length)
   | none=>none
  | none=>none)=some an->∃ v,(results fn a.tmps).run P w'=.ok v w'/\∃ y,Ending.returned v=.returned y/\Aft F0 w0 β0 st.np an y w':=fun st' F' β' w' a' ht hR _ _ hnp hq=>by
  split at hq
  . rename_i l hl
    split at hq
    . rename_i l' st1 hc
      obtain ⟨y,h1,h2⟩:=zuk hR hl hc hq
      rw[ht]at h1
      exact⟨y,h1,y,rfl,by rw[← hnp];exact h2⟩
    . cases hq
  . cases hq
 split at hr'
 . rename_i hdf
   have hds:a.defers=[]:=zrP (by have:=h.df;rw[hdf]at this;exact this)
   rw[hds]
   exact last st F β w a rfl h hdf hgl rfl hr'
 . rename_i d r hdf
   have hst:({ st with df:=d :: r }:St)=st:=by rw[← hdf]
   have ha:({ a with defers:=a.defers }:Act)=a:=rfl
   exact zla hD last (d :: r) a.defers F β st w (by rw[hst];exact h) hgl rfl (by rw[hst];exact hr')
theorem zxH{dp:TypeId->List (Nat × TypeId)}{F:Nat->Prop}{w:World}{β:Gh}{fn:Func}{args:List AV}{hp:List Blk}{vs:List Value}(hh:HOk F w β hp)(hgl:GlOk GL F w)(hl:vs.length=args.length)(hv : ∀ j,j<args.length->V F w β (args.getD j .undef) (vs.getD j undef)) :
 Rel (zrS w F β) F β (entry dp GL fn args hp) { tmps:=vs.toArray++Array.replicate (fn.ntmps-vs.toArray.size) undef,defers:=[] } w:=by
 refine⟨by simp[entry,hl],fun t=>?_,hgl,trivial,.refl _ _,fun p hp=>.inl hp,fun p hp=>hp,fun p κ hp=>.inl (by show β.o p ≠ none;rw[hp];simp),.refl _,hh.live,fun b hb=>.inl hb,Nat.le_refl _,hh⟩
 by_cases ht:t<args.length
 . have:=hv t ht
   have ht':t<vs.length:=by omega
   have e1:(entry dp GL fn args hp).get t=args.getD t .undef:=by simp[entry,St.get,List.getD,List.getElem?_append_left ht]
   have e2:(vs.toArray++Array.replicate (fn.ntmps-vs.toArray.size) undef).getD t undef=vs.getD t undef:=by
    rw[Array.getD_eq_getD_getElem?,Array.getElem?_append_left (by simpa using ht'),List.getElem?_toArray,List.getD_eq_getElem?_getD]
   rw[e1]
   show V F w β _ ((vs.toArray++Array.replicate (fn.ntmps-vs.toArray.size) undef).getD t undef)
   rw[e2];exact this
 . have:(entry dp GL fn args hp).get t=.undef:=by
    simp only[entry,St.get,List.getD,List.getElem?_append_right (Nat.le_of_not_lt ht),List.getElem?_replicate]
    split <;> rfl
   rw[this];exact .undef _
theorem zgt(hG:GOk P GL G)(hD:zrx (CD P) P GL H.dfr){f:FuncId}{fn:Func}{c:Code}(hf:P.funcs[f]?=some fn)(hb:fn.body=some c)(hu:okL H 0 c=true){args:List AV}{hp:List Blk}{an:Ans}(n:Nat)
 (hrun:zx8 P G H (zx9 P G H fn n) GL fn args hp=some an):Okay P GL f args hp an:=by
 intro F w β vs hh hgl hl hv
 have hbody:zc9 fn=c:=by simp[zc9,hb]
 refine calls_of_wp_defers hf hb ?_
 refine zAz (B:=zrS w F β) (H:=H) (GL:=GL) (N:=hp.length) hG (zx9 P G H fn) (fun _ _=>rfl) (r:=an) c 0 hu (n+1) (fun _=>fin P H fn) _ (fun i _ e st a w' F' β' hR hgn hk=>?_) (fun at_ _ i _ st=>by rw[← hbody];rfl) n (by omega) (entry H.dp GL fn args hp) _ w F β (zxH hh hgl hl hv) ⟨rfl,rfl⟩ (by rw[← hbody];exact hrun)
 obtain ⟨he,hL⟩:=zuh hD hR hgn.1 hk
 rw[hgn.2]at hL
 rcases he with rfl | rfl <;> exact hL
def G0:Gam:=fun _ _ _=>none
theorem zJ{C:FuncId->Array Value->World->(Ending->World->Prop)->Prop}:zrx C P GL G0:=fun _ _ _ _ h=>by cases h
end
end Go.Proofs.YtgajeebphoiphaaGreatDoor
end
