import Derived.Test.YtgajeebphoiphaaGreatDoorSF
import Derived.Test.YtgajeebphoiphaaGreatDoorRows
set_option linter.unusedVariables false
set_option linter.unusedSimpArgs false
noncomputable section
open Go.IntKind (i64 u32)
namespace Go.Proofs.YtgajeebphoiphaaGreatDoor
def zO:TypeId->List (Nat × TypeId):=fun _=>[]
open Go.RowKit
noncomputable abbrev Pr:Program:=Tryz.prog
def nowhere:zaY:=⟨-1,-1⟩
def fine:zx:=⟨0,⟨0,0⟩⟩
def GL:List AV:=[.el .sAdmitFound [fine] 0 0,.el .sWhere [nowhere] 0 0]
def lk:List (Nat × AV)->Nat->AV
 | [],_=>.undef
 | (j,x) :: r,i=>match Nat.beq j i with | true=>x | false=>lk r i
def mkE(l:List (Nat × AV)):Nat->Nat->List AV
 | 0,_=>[]
 | n+1,i=>lk l i :: mkE l n (i+1)
def fgt(keep:List Nat):Nat->Nat->List Nat
 | 0,_=>[]
 | n+1,i=>match keep.any (Nat.beq i)with | true=>fgt keep n (i+1) | false=>i :: fgt keep n (i+1)
def zgf:List (Nat × Hd)->Nat->Hd
 | [],_=>⟨[],[]⟩
 | (j,x) :: r,i=>match Nat.beq j i with | true=>x | false=>zgf r i
def zqs{L R:Type}(bod:(L->Option R)->L->Option R):Nat->L->Option R
 | 0,_=>none
 | n+1,l=>bod (zqs bod n) l
def Le{R:Type}(a b:Option R):Prop:=∀ r,a=some r->b=some r
open Classical in
noncomputable def lim{R:Type}(f:Nat->Option R):Option R:=if h : ∃ n r,f n=some r then f h.choose else none
def Chain{R:Type}(f:Nat->Option R):Prop:=∀ n,Le (f n) (f (n+1))
theorem Chain.le{R:Type}{f:Nat->Option R}(h:Chain f){n m:Nat}(hm:n<=m):Le (f n) (f m):=by
 induction hm with
 | refl=>exact fun r h=>h
 | step _ ih=>exact fun r hr=>h _ r (ih r hr)
theorem zrR{R:Type}{f:Nat->Option R}(h:Chain f){n:Nat}{r:R}(hr:f n=some r):lim f=some r:=by
 have hex : ∃ n r,f n=some r:=⟨n,r,hr⟩
 unfold lim
 rw[dif_pos hex]
 obtain ⟨r',h'⟩:=hex.choose_spec
 rcases Nat.le_total n hex.choose with h1 | h1
 . exact h.le h1 r hr
 . have:=h.le h1 r' h'
   rw[hr]at this
   rw[h',this]
theorem zu9{R:Type}{f:Nat->Option R}{r:R}(h:lim f=some r) : ∃ n,f n=some r:=by
 unfold lim at h
 split at h
 . exact⟨_,h⟩
 . cases h
structure CT{L R S:Type}(t:(L->Option R)->Option S):Prop where
 mono : ∀ j j',(∀ l,Le (j l) (j' l))->Le (t j) (t j')
 fin : ∀ s:Nat->L->Option R,(∀ l,Chain fun n=>s n l)->∀ r,t (fun l=>lim fun n=>s n l)=some r->∃ n,t (s n)=some r
theorem CT.const{L R S:Type}(x:Option S):CT (L:=L) (R:=R) fun _=>x:=⟨fun _ _ _ _ h=>h,fun _ _ _ h=>⟨0,h⟩⟩
theorem CT.jump{L R:Type}(l:L):CT (R:=R) fun j=>j l:=⟨fun _ _ h=>h l,fun _ _ _ h=>zu9 h⟩
theorem CT.cond{L R S:Type}{c:Bool}{a b:(L->Option R)->Option S}(ha:CT a)(hb:CT b):CT fun j=>cond c (a j) (b j):=by
 cases c
 . exact hb
 . exact ha
section
variable {L R:Type} {bod:(L->Option R)->L->Option R}
theorem zh4(h : ∀ l,CT fun j=>bod j l) : ∀ n l,Le (zqs bod n l) (zqs bod (n+1) l)
 | 0,l=>fun r hr=>by cases hr
 | n+1,l=>(h l).mono _ _ (zh4 h n)
noncomputable def lfp(bod:(L->Option R)->L->Option R)(l:L):Option R:=lim fun n=>zqs bod n l
theorem zHg(h : ∀ l,CT fun j=>bod j l)(l:L):lfp bod l=bod (lfp bod) l:=by
 have hc : ∀ l,Chain fun n=>zqs bod n l:=fun l n=>zh4 h n l
 cases hr:bod (lfp bod) l with
 | some r=>
  obtain ⟨n,hn⟩:=(h l).fin (zqs bod) hc r hr
  exact zrR (hc l) (n:=n+1) hn
 | none=>
  cases hl:lfp bod l with
  | none=>rfl
  | some r=>
   exfalso
   obtain ⟨n,hn⟩:=zu9 hl
   cases n with
   | zero=>cases hn
   | succ n=>
    have:=(h l).mono (zqs bod n) (lfp bod) (fun l' r' h'=>zrR (hc l') h') r hn
    rw[hr]at this
    cases this
end
inductive Tree(L R:Type):Type 1 where
 | r (x:R) | j (l:L) | n
 | g (b:Bool) (x:Tree L R)
 | c (b:Bool) (x y:Tree L R)
 | b {S:Type} (o:Option S) (k:S->Tree L R)
 | o {S:Type} (o:Option S) (k:S->Tree L R) (z:Tree L R)
section
variable {L R:Type}
def Tree.run(j:L->Option R):Tree L R->Option R
 | .r x=>some x
 | .j l=>j l
 | .n=>none
 | .g q x=>cond q (x.run j) none
 | .c q x y=>cond q (x.run j) (y.run j)
 | .b u k=>u.bind fun s=>(k s).run j
 | .o u k z=>orB u (fun s=>(k s).run j) (z.run j)
noncomputable def Tree.runA(to:R->Ans)(j:L->Option Ans)(t:Tree L R):Option Ans:=
 Tree.rec (motive:=fun _=>Option Ans) (fun x=>some (to x)) j none (fun b _ x=>cond b x none) (fun b _ _ x y=>cond b x y) (fun o _ k=>orB o k none) (fun o _ _ k z=>orB o k z) t
theorem Tree.run_map(to:R->Ans)(f:L->Option R) : ∀ t:Tree L R,t.runA to (fun l=>(f l).map to)=(t.run f).map to
 | .r _=>rfl
 | .j _=>rfl
 | .n=>rfl
 | .g q x=>by
  show cond q (x.runA to _) none=_
  rw[run_map to f x];cases q <;> rfl
 | .c q x y=>by
  show cond q (x.runA to _) (y.runA to _)=_
  rw[run_map to f x,run_map to f y];cases q <;> rfl
 | .b u k=>by
  show orB u (fun s=>(k s).runA to _) none=_
  cases u with
  | none=>rfl
  | some s=>exact run_map to f (k s)
 | .o u k z=>by
  show orB u (fun s=>(k s).runA to _) (z.runA to _)=_
  cases u with
  | none=>exact run_map to f z
  | some s=>exact run_map to f (k s)
theorem Tree.ct : ∀ t:Tree L R,CT fun j=>t.run j
 | .r x=>CT.const (some x)
 | .j l=>CT.jump l
 | .n=>CT.const none
 | .g q x=>CT.cond (ct x) (CT.const none)
 | .c q x y=>CT.cond (ct x) (ct y)
 | .b u k=>by
  cases u with
  | none=>exact CT.const none
  | some s=>exact ct (k s)
 | .o u k z=>by
  cases u with
  | none=>exact ct z
  | some s=>exact ct (k s)
def Tree.tot:Tree L R->Bool
 | .r _=>true
 | .c _ x y=>x.tot&&y.tot
 | _=>false
def Tree.val[Inhabited R]:Tree L R->R
 | .r x=>x
 | .c q x y=>cond q x.val y.val
 | _=>default
theorem Tree.run_val[Inhabited R]{f:L->Option R} : ∀ {t:Tree L R},t.tot=true->t.run f=some t.val
 | .r _,_=>rfl
 | .c q x y,h=>by
  simp only[tot,Bool.and_eq_true]at h
  show cond q (x.run f) (y.run f)=some (cond q x.val y.val)
  rw[run_val h.1,run_val h.2];cases q <;> rfl
 | .j _,h=>by cases h
 | .n,h=>by cases h
 | .g _ _,h=>by cases h
 | .b _ _,h=>by cases h
 | .o _ _ _,h=>by cases h
noncomputable def zan(bod:L->Tree L R):L->Option R:=lfp fun j l=>(bod l).run j
theorem zF(bod:L->Tree L R)(l:L):zan bod l=(bod l).run (zan bod):=zHg (fun l=>(bod l).ct) l
abbrev Tree.run0(t:Tree Empty R):Option R:=t.run fun _=>none
end
structure GK where
 G:Gam
 ok:GOk Pr GL G
noncomputable def K0:GK:=⟨G0,zJ⟩
def Oks(f:FuncId)(args:List AV)(hp:List Blk){R:Type}(o:Option R)(to:R->Ans):Prop:=zij Pr f/\∀ x,o=some x->Okay Pr GL f args hp (to x)
def H0:zaa:=⟨fun _=>false,fun _=>⟨[],[]⟩,[],G0,zO⟩
section
variable (K:GK) {H:zaa} (hD:zq9 (CD Pr) Pr GL H.dfr) {f:FuncId} {fn:Func} {c:Code} (hf:Pr.funcs[f]?=some fn) (hb:fn.body=some c) (hu:(okL H 0 c&&!(fn.name == "runtime.NumGoroutine"))=true)
include hf hb hu
theorem zp6:zij Pr f:=⟨fn,hf,by simpa using (Bool.and_eq_true_iff.1 hu).2,by rw[hb];rfl⟩
include hD
theorem zM{R L:Type}{args:List AV}{hp:List Blk}{to:R->Ans}(st:L->Nat × St){bod:L->Tree L R}{ent:Tree L R}
 (head : ∀ (J:Jmp) l,stepAt Pr K.G H J (st l).1 0 (zc5 fn) (fin Pr H fn) (st l).2=(bod l).runA to fun l=>J (st l).1 (st l).2)
 (run : ∀ J:Jmp,zxL Pr K.G H J GL fn args hp=ent.runA to fun l=>J (st l).1 (st l).2):Oks f args hp (ent.run (zan bod)) to:=by
 refine⟨zp6 hf hb hu,fun x hx=>?_⟩
 obtain ⟨n,hn⟩:=ent.ct.fin (zqs fun j l=>(bod l).run j) (fun l n=>zh4 (fun l=>(bod l).ct) n l) x hx
 have hs : ∀ (n:Nat) (l:L),zxM Pr K.G H fn n (st l).1 (st l).2=(zqs (fun j l=>(bod l).run j) n l).map to:=by
  intro n
  induction n with
  | zero=>exact fun l=>rfl
  | succ n ih=>
   intro l
   refine(head _ l).trans ?_
   rw[show(fun l=>zxM Pr K.G H fn n (st l).1 (st l).2)=_ from funext ih]
   exact Tree.run_map to _ (bod l)
 refine zgn (H:=H) K.ok hD hf hb (Bool.and_eq_true_iff.1 hu).1 n ((run _).trans ?_)
 rw[show(fun l=>zxM Pr K.G H fn n (st l).1 (st l).2)=_ from funext (hs n),Tree.run_map,hn]
 rfl
theorem zL{R:Type}{args:List AV}{hp:List Blk}{to:R->Ans}{ent:Tree Empty R}(run : ∀ J:Jmp,zxL Pr K.G H J GL fn args hp=ent.runA to fun _=>none):Oks f args hp ent.run0 to:=by
 refine⟨zp6 hf hb hu,fun x hx=>?_⟩
 refine zgn (H:=H) K.ok hD hf hb (Bool.and_eq_true_iff.1 hu).1 0 ((run _).trans ?_)
 exact(Tree.run_map to (fun _=>none) ent).trans (by rw[show ent.run (fun _=>none)=some x from hx];rfl)
theorem zbt{R:Type}[Inhabited R]{args:List AV}{hp:List Blk}{to:R->Ans}{ent:Tree Empty R}(ht:ent.tot=true)(run : ∀ J:Jmp,zxL Pr K.G H J GL fn args hp=ent.runA to fun _=>none):Oks f args hp (some ent.val) to:=by
 rw[← Tree.run_val (f:=fun _=>none) ht]
 exact zL K hD hf hb hu run
theorem zbh{R:Type}{args:List AV}{hp:List Blk}{to:R->Ans}{x:R}(run : ∀ J:Jmp,zxL Pr K.G H J GL fn args hp=some (to x)):Oks f args hp (some x) to:=by
 refine⟨zp6 hf hb hu,fun y hy=>?_⟩
 cases hy
 exact zgn (H:=H) K.ok hD hf hb (Bool.and_eq_true_iff.1 hu).1 0 (run _)
end
def Has(x:AV):Prop:=∃ F w β y,V F w β x y
theorem Has.len{t:Ty}{xs:List t.T}(h:Has (.sl t xs)):xs.length<=140737488355328:=by
 obtain ⟨F,w,β,y,h⟩:=h
 cases h
 . simp
 . assumption
theorem Has.cell{cs:List AV}(h:Has (.agg cs))(j:Nat)(hj:j<cs.length):Has (cs.getD j .undef):=by
 obtain ⟨F,w,β,y,h⟩:=h
 cases h with | agg _ ys hl hc=>exact⟨F,w,β,_,hc j hj⟩
theorem zal(n:Int)(h0 : -9223372036854775808<=n)(h1:n<9223372036854775808):i64.wrap n=n:=by
 simp[IntKind.wrap,IntKind.bits,IntKind.signed];omega
theorem zn{i:Nat}{n:Nat}(h:i<n):zN (i:Int) n=true:=inR_iff.2 ⟨by omega,by omega⟩
noncomputable def mn(a b:Int):Int:=match zeM Pr (Builtin.min_ #[3,3] 3 #[.int .i64 a,.int .i64 b])with | some (.int _ n)=>n | _=>0
def zcw(s:ByteArray)(i:Nat):Int:=(((s.data.getD i 0).toNat:Nat):Int)
noncomputable def bop(op:BinOp)(k:IntKind)(a b:Int):Int:=match zeM Pr (binOp op 3 (.int k a) (.int k b))with | some (.int _ n)=>n | _=>0
noncomputable def uop(op:UnOp)(k:IntKind)(a:Int):Int:=match zeM Pr (Op.unary op (.int k a))with | some (.int _ n)=>n | _=>0
def zw(xs:List Int)(i:Nat):Int:=xs.getD i 0
def zbH(xs:List Bool)(i:Nat):Bool:=xs.getD i false
def zfP(xs:List Clo)(i:Nat):Clo:=xs.getD i .none
def zW(xs:List (List Int))(i:Nat):List Int:=xs.getD i []
def zbz(xs:List zam)(i:Nat):zam:=xs.getD i default
def zD(xs:List (List zam))(i:Nat):List zam:=xs.getD i []
def zh(xs:List Region)(i:Nat):Region:=xs.getD i default
def zbc(xs:List zb9)(i:Nat):zb9:=xs.getD i default
def zb(xs:List zf)(i:Nat):zf:=xs.getD i default
def zu(xs:List zI)(i:Nat):zI:=xs.getD i default
def zA(xs:List z6)(i:Nat):z6:=xs.getD i default
def zm(xs:List zj)(i:Nat):zj:=xs.getD i default
def zcC(xs:List zaW)(i:Nat):zaW:=xs.getD i default
def zG(xs:List zE)(i:Nat):zE:=xs.getD i default
def zaB(xs:List zX)(i:Nat):zX:=xs.getD i default
def zt(xs:List zp)(i:Nat):zp:=xs.getD i default
def zby(xs:List zk)(i:Nat):zk:=xs.getD i default
def zdW(xs:List zx)(i:Nat):zx:=xs.getD i default
def z7(xs:List LayoutEnd)(i:Nat):LayoutEnd:=xs.getD i default
def zhH(xs:List zU)(i:Nat):zU:=xs.getD i default
theorem opM1{α β:Type}{f:α->β}{a:α}:(some a).map f=some (f a):=rfl
theorem opM2{α β:Type}{f:α->β}:(none:Option α).map f=none:=rfl
theorem ctK{L R S:Type}(x:Option S):CT (L:=L) (R:=R) fun _=>x:=CT.const x
theorem ctJ{L R:Type}(l:L):CT (R:=R) fun j=>j l:=CT.jump l
theorem ctC{L R S:Type}{c:Bool}{a b:(L->Option R)->Option S}(ha:CT a)(hb:CT b):CT fun j=>cond c (a j) (b j):=CT.cond ha hb
abbrev stt(l:List (Nat × AV))(n:Nat)(h:List Blk)(p:Nat):St:=⟨mkE l n 0,h,GL,p,[],zO⟩
abbrev htt(c:List Nat)(h:List (Nat × Hd))(f:List (At × Cv)):zaa:=⟨fun n=>c.any (Nat.beq n),zgf h,f,G0,zO⟩
abbrev zg(n:Int):AV:=.v (.int .i64 n)
abbrev zr(n:Int):AV:=.v (.int .u32 n)
abbrev avB(b:Bool):AV:=.v (.bool b)
abbrev avG(a b d e:Int)(f:List (List zam))(g:List zf)(h:List zI)(i:Int)(k:List zj)(l:List zE)(n:Int)(m:Option ze)(o:Nat):List AV:=[zg a,zg b,zg d,zg e,.sl (.sl .sWindow) f,.sl .sPartition g,.sl .sChannel h,zg i,.sl .sPartitionPlace k,.sl .sChannelPlace l,zg n,.op .sMemMemory m,.own o]
abbrev avF(c:za)(l:zaQ)(m:Option ze)(o:Nat):List AV:=avG c.frames c.major c.kernel c.room c.cores c.partitions c.channels l.barrier l.partitions l.channels l.end_ m o
def rdS(t:Ty):AV->Option t.T
 | .agg cs=>t.dec cs
 | _=>none
def rdL(t:Ty)(x:AV):Option t.T:=match Nat.beq t.sz 1,x with
 | true,.agg _=>none
 | true,.tup _=>none
 | true,x=>t.dec [x]
 | false,_=>none
def rdP(t:Ty)(x:AV):Option t.T:=match zcs t x with | some (some x)=>some x | _=>none
inductive Ats:List AV->List AV->Prop
 | nil:Ats [] []
 | cons {x z:AV} {l r:List AV} (h : ∀ F w β y,V F w β x y->V F w β z y) (h':Ats l r):Ats (x :: l) (z :: r)
theorem Ats.refl : ∀ l:List AV,Ats l l
 | []=>.nil
 | _ :: l=>.cons (fun _ _ _ _ h=>h) (Ats.refl l)
theorem Ats.len{l r:List AV}(h:Ats l r):l.length=r.length:=by
 induction h with
 | nil=>rfl
 | cons _ _ ih=>simp[ih]
theorem Ats.get{l r:List AV}(h:Ats l r) : ∀ (j:Nat) F w β y,V F w β (l.getD j .undef) y->V F w β (r.getD j .undef) y:=by
 induction h with
 | nil=>intro j F w β y h;exact h
 | cons h0 _ ih=>
  intro j F w β y h
  cases j with
  | zero=>exact h0 F w β y h
  | succ j=>exact ih j F w β y h
theorem Okay.ats{P:Program}{GL:List AV}{f:FuncId}{args args':List AV}{hp:List Blk}{r:Ans}(h:Okay P GL f args' hp r)(ha:Ats args args'):Okay P GL f args hp r:=
 fun F w β vs hh hg hl hv=>h F w β vs hh hg (hl.trans ha.len) fun j hj=>ha.get j F w β _ (hv j (by rw[ha.len];exact hj))
theorem zGZ{F:Nat->Prop}{w:World}{β:Gh}{cs zs:List AV}{ys:Array Value}(hl:cs.length=zs.length)(hf:Fits F w β cs zs)(h:V F w β (.agg cs) (.agg ys)):V F w β (.agg zs) (.agg ys):=by
 cases h with
 | agg _ _ hy hc=>exact .agg _ _ (hy.trans hl) fun j hj=>hf j _ (by omega) (hc j (by omega))
theorem zct{t:Ty}{x:AV}{s:t.T}(h:rdS t x=some s) : ∀ F w β y,V F w β x y->V F w β (.agg (t.enc s)) y:=by
 intro F w β y hv
 unfold rdS at h
 split at h
 . rename_i cs
   obtain ⟨h1,h2⟩:=zbj (F:=F) (w:=w) (β:=β) h
   cases hv with
   | agg _ ys hl hc=>exact zGZ (by rw[h1,zaj]) h2 (.agg _ ys hl hc)
 . cases h
theorem z8{t:Ty}{x:AV}{s:t.T}(h:rdL t x=some s) : ∀ F w β y,V F w β x y->V F w β ((t.enc s).getD 0 .undef) y:=by
 intro F w β y hv
 unfold rdL at h
 split at h
 . cases h
 . cases h
 . obtain ⟨h1,h2⟩:=zbj (F:=F) (w:=w) (β:=β) h
   exact h2 0 y (by simp) (by simpa using hv)
 . cases h
theorem zOa{t:Ty}{x:AV}{s:t.T}(h:rdP t x=some s) : ∀ F w β y,V F w β x y->V F w β (.op t (some s)) y:=by
 intro F w β y hv
 unfold rdP at h
 split at h
 . rename_i ho
   simp at h;subst h
   exact zac ho hv
 . cases h
theorem Oks.ats{f:FuncId}{args args':List AV}{hp:List Blk}{R:Type}{o:Option R}{to:R->Ans}(h:Oks f args' hp o to)(ha:Ats args args'){x:R}(hx:o=some x):zij Pr f/\Okay Pr GL f args hp (to x):=⟨h.1,(h.2 x hx).ats ha⟩
theorem Ats.app{l r l' r':List AV}(h:Ats l r)(h':Ats l' r'):Ats (l++l') (r++r'):=by
 induction h with
 | nil=>exact h'
 | cons h0 _ ih=>exact .cons h0 ih
structure Fk(f:FuncId) where
 g:List AV->List Blk->Option Rsp
 ok : ∀ args hp y,g args hp=some y->∀ x,y.o=some x->zij Pr f/\Okay Pr GL f args hp (y.to x)
structure znM(f:FuncId)(pre:List AV) where
 k:List AV->Option Rsp
 ok : ∀ l y,k l=some y->∀ x,y.o=some x->zij Pr f/\Okay Pr GL f (pre++l) [] (y.to x)
section
variable {f:FuncId} {pre:List AV}
def aRd{α:Type}{r:AV->Option α}{e:α->AV}(hr : ∀ {x a},r x=some a->∀ F w β y,V F w β x y->V F w β (e a) y)(K:(a:α)->znM f (pre++[e a])):znM f pre where
 k l:=match l with
  | x :: l=>(r x).bind fun a=>(K a).k l
  | []=>none
 ok l y hy x hx:=by
  cases l with
  | nil=>cases hy
  | cons z l=>
   simp only[Option.bind_eq_some_iff]at hy
   obtain ⟨a,h1,h2⟩:=hy
   obtain ⟨k1,k2⟩:=(K a).ok l y h2 x hx
   rw[List.append_assoc]at k2
   exact⟨k1,k2.ats ((Ats.refl pre).app (.cons (hr h1) (Ats.refl l)))⟩
abbrev aS(t:Ty)(K:(a:t.T)->znM f (pre++[.agg (t.enc a)])):znM f pre:=aRd zct K
abbrev aL(t:Ty)(K:(a:t.T)->znM f (pre++[(t.enc a).getD 0 .undef])):znM f pre:=aRd z8 K
abbrev aP(t:Ty)(K:(a:t.T)->znM f (pre++[.op t (some a)])):znM f pre:=aRd zOa K
def aE{R:Type}[Inhabited R]{o:Option R}{to:R->Ans}(h:Oks f pre [] o to):znM f pre where
 k l:=match l with
  | []=>some ⟨R,o,to,default⟩
  | _ :: _=>none
 ok l y hy x hx:=by
  cases l with
  | nil=>cases hy;rw[List.append_nil];exact⟨h.1,h.2 x hx⟩
  | cons z l=>cases hy
def aF(K:znM f []):Fk f where
 g args hp:=match hp with | []=>K.k args | _ :: _=>none
 ok args hp y hy x hx:=by
  cases hp with
  | nil=>exact K.ok args y hy x hx
  | cons z l=>cases hy
end
def zBY:List (Sigma Fk)->FuncId->List AV->List Blk->Option Rsp->Option Rsp
 | [],_,_,_,d=>d
 | ⟨n,k⟩ :: l,f,args,hp,d=>match Nat.beq n f with | true=>k.g args hp | false=>zBY l f args hp d
theorem zqY : ∀ {l:List (Sigma Fk)} {f:FuncId} {args:List AV} {hp:List Blk} {d:Option Rsp} {y:Rsp},zBY l f args hp d=some y->∀ x,y.o=some x->(zij Pr f/\Okay Pr GL f args hp (y.to x)) ∨ d=some y
 | [],_,_,_,_,_,h,_,_=>.inr h
 | ⟨n,k⟩ :: l,f,args,hp,d,y,h,x,hx=>by
  simp only[zBY]at h
  split at h
  . rename_i hn
    have:=Nat.eq_of_beq_eq_true hn
    subst this
    exact .inl (k.ok args hp y h x hx)
  . exact zqY h x hx
noncomputable def zlj(l:List (Sigma Fk))(K:GK):GK where
 G c args hp:=match c with
  | .f f=>zBY l f args hp (K.G (.f f) args hp)
  | .c x=>K.G (.c x) args hp
  | .a f=>K.G (.a f) args hp
 ok c args hp y h x hx:=match c with
  | .f f=>by
   rcases zqY h x hx with h1 | h1
   . exact h1
   . exact K.ok (.f f) args hp y h1 x hx
  | .c z=>K.ok (.c z) args hp y h x hx
  | .a f=>K.ok (.a f) args hp y h x hx
noncomputable def zC5(l:List (Sigma Fk))(K:GK):GK where
 G c args hp:=match c with
  | .a f=>zBY l f args hp (K.G (.a f) args hp)
  | .c x=>K.G (.c x) args hp
  | .f f=>K.G (.f f) args hp
 ok c args hp y h x hx:=match c with
  | .a f=>by
   rcases zqY h x hx with h1 | h1
   . exact h1
   . exact K.ok (.a f) args hp y h1 x hx
  | .c z=>K.ok (.c z) args hp y h x hx
  | .f f=>K.ok (.f f) args hp y h x hx
structure Ck where
 g:Clo->List AV->List Blk->Option Rsp
 ok : ∀ {z args hp y},g z args hp=some y->∀ x,y.o=some x->OkC Pr GL (.c z) args hp (y.to x)
noncomputable def gamC(k:Ck)(K:GK):GK where
 G c args hp:=match c with
  | .c x=>k.g x args hp
  | .a f=>K.G (.a f) args hp
  | .f f=>K.G (.f f) args hp
 ok c args hp y h x hx:=match c with
  | .c z=>k.ok h x hx
  | .a f=>K.ok (.a f) args hp y h x hx
  | .f f=>K.ok (.f f) args hp y h x hx
abbrev R55:=Bool
def to55(r:R55):Ans:=⟨(avB r),[]⟩
inductive L55 where | l0 (x0:Int) | l4 (x0:Int)
def H55:zaa:=htt [] [(0,⟨fgt [2,3,5] 101 0,[]⟩),(4,⟨fgt [2,3,6] 101 0,[]⟩)] []
def st55(a:zf)(b:zf):L55->Nat × St | .l0 x0=>(0,⟨mkE [(2,.ref 0 0),(3,.ref 1 0),(5,(zg x0))] 101 0,[.cells 72 (Ty.enc .sPartition a),.cells 72 (Ty.enc .sPartition b)],GL,0,[],zO⟩) | .l4 x0=>(4,⟨mkE [(2,.ref 0 0),(3,.ref 1 0),(6,(zg x0))] 101 0,[.cells 72 (Ty.enc .sPartition a),.cells 72 (Ty.enc .sPartition b)],GL,0,[],zO⟩)
def zn7(a:zf)(b:zf):L55->Tree L55 R55 | .l0 x0 =>let y1:=zh a.regions x0.toNat;let y2:=zh b.regions x0.toNat;.c (decide (x0<a.regions.length)) (.g (zN x0 a.regions.length) <| .g (zN x0 b.regions.length) <| .c (!(((y1.page:Int)==(y2.page))&&(((y1.pages:Int)==(y2.pages))&&(((y1.frame:Int)==(y2.frame))&&(((y1.rights:Int)==(y2.rights))&&true))))) (.r false) (.j (.l0 (i64.wrap (x0+1))))) (.j (.l4 0)) | .l4 x0 =>let y1:=zbc a.ports x0.toNat;let y2:=zbc b.ports x0.toNat;.c (decide (x0<a.ports.length)) (.g (zN x0 a.ports.length) <| .g (zN x0 b.ports.length) <| .c (!(((y1.channel:Int)==(y2.channel))&&(((y1.source)==(y2.source))&&true))) (.r false) (.j (.l4 (i64.wrap (x0+1))))) (.r true)
def zEx(a:zf)(b:zf):Tree L55 R55:=.c (!(a.name.toList==b.name.toList)) (.r false) (.c (!((a.entry:Int)==b.entry)) (.r false) (.c (!((a.action:Int)==b.action)) (.r false) (.c (!((a.restarts:Int)==b.restarts)) (.r false) (.c (!((a.inputs:Int)==b.inputs)) (.r false) (.c (!((a.outputs:Int)==b.outputs)) (.r false) (.c (!((a.regions.length:Int)==b.regions.length)) (.r false) (.c (!((a.ports.length:Int)==b.ports.length)) (.r false) (.j (.l0 0)))))))))
def zmZ(a:zf)(b:zf):L55->Option R55:=zan (zn7 a b)
theorem zjc(a:zf)(b:zf)(l:L55):zmZ a b l=(zn7 a b l).run (zmZ a b):=zF _ l
def zsN(a:zf)(b:zf):Option R55:=(zEx a b).run (zmZ a b)
theorem zNm(a:zf)(b:zf):Oks 55 [.agg (Ty.enc .sPartition a),.agg (Ty.enc .sPartition b)] [] (zsN a b) to55:=zM K0 (H:=H55) zJ Tryz.func55 rfl (by kernel_rfl) (st55 a b) (fun J l=>by cases l <;> kernel_rfl) (fun J=>by kernel_rfl)
abbrev R20:=zo
def to20(r:R20):Ans:=⟨.agg [(zg r.config.frames),(zg r.config.major),(zg r.config.kernel),(zg r.config.room),.own 0,.own 1,.own 2,.own 3,.own 4],[.arr 136 (.sl .sWindow) r.config.cores,.arr 72 .sPartition r.config.partitions,.arr 76 .sChannel r.config.channels,.arr 53 (.sl (.i .u32)) r.programs,.arr 85 .sFeed r.feeds]⟩
def zBB:R20:=(⟨(⟨16,600,3,13,[[(⟨0,100,100⟩:zam),(⟨1,100,100⟩:zam),(⟨2,100,100⟩:zam)]],[(⟨(ByteArray.mk #[97]),0,0,0,1,1,[(⟨0,1,0,7⟩:Region)],[(⟨0,true⟩:zb9),(⟨1,true⟩:zb9)]⟩:zf),(⟨(ByteArray.mk #[98]),0,0,0,0,0,[(⟨0,1,1,5⟩:Region)],[(⟨0,false⟩:zb9),(⟨1,false⟩:zb9)]⟩:zf),(⟨(ByteArray.mk #[99]),0,0,0,0,0,[(⟨0,1,2,7⟩:Region)],[(⟨0,false⟩:zb9)]⟩:zf)],[(⟨1,2,0⟩:zI),(⟨2,1,2⟩:zI)]⟩:za),[[0,0,0,0,7,8]],[(⟨0,3,[77]⟩:z6)]⟩:zo)
theorem zMQ:Oks 20 [] [] (some (zBB)) to20:=zbh K0 (H:=H0) zJ Tryz.func20 rfl (by kernel_rfl) (fun J=>by kernel_rfl)
abbrev zir:=zbb
def zB9(r:zir):Ans:=⟨.ifc 241 (.agg [(zg r.ends.stage),(zg r.ends.words),.own 0]),[.arr 3 (.i .i64) r.ends.ports]⟩
inductive zgU where | l0 (x0:Int) (x1:List Int)
def zCy:zaa:=htt [] [(0,⟨fgt [5,6,37,38,39] 62 0,[(.box 6 2,.own 3 (.i .i64))]⟩)] [(.slot 0,.ift 241)]
def zBS(d:(Option zH))(n_1:Int):zgU->Nat × St | .l0 x0 x1=>(0,⟨mkE [(5,.ref 0 0),(6,.ref 1 0),(37,.sl .sDestPlace ((zG ((d.getD default).lay.channels) n_1.toNat).dests)),(38,(zg (((zG ((d.getD default).lay.channels) n_1.toNat).dests).length))),(39,(zg x0))] 62 0,[.cells 76 (Ty.enc .sChannel (zu ((d.getD default).c.channels) n_1.toNat)),.cells 237 [(zg ((zG ((d.getD default).lay.channels) n_1.toNat).stage)),(zg ((zu ((d.getD default).c.channels) n_1.toNat).words)),.own 2],.arr 3 (.i .i64) x1],GL,0,[],zO⟩)
def zgX(d:(Option zH))(n_1:Int):zgU->Tree zgU zir | .l0 x0 x1 =>let y1:=zG ((d.getD default).lay.channels) n_1.toNat;let y2:=zu ((d.getD default).c.channels) n_1.toNat;let y3:=zcC (y1.dests) x0.toNat;.c (decide (x0<(y1.dests).length)) (.g (zN x0 (y1.dests).length) <| .g (leB (((x1:List Int).length+([y3.at_]:List Int).length)*8) 140737488355328) <| .j (.l0 (i64.wrap (x0+1)) ((x1:List Int)++[y3.at_]))) (.c ((y2.kind:Int)==2) (.n) (.r (⟨(⟨y1.stage,y2.words,x1⟩:zds)⟩:zbb)))
def zok(d:(Option zH))(n_1:Int):Tree zgU zir:=.g d.isSome <| .g (zN n_1 ((d.getD default).c.channels).length) <| .g d.isSome <| .g (zN n_1 ((d.getD default).lay.channels).length) <| .g d.isSome <| .g (zN n_1 ((d.getD default).lay.channels).length) <| .j (.l0 0 [])
def zfe(d:(Option zH))(n_1:Int):zgU->Option zir:=zan (zgX d n_1)
theorem zi3(d:(Option zH))(n_1:Int)(l:zgU):zfe d n_1 l=(zgX d n_1 l).run (zfe d n_1):=zF _ l
def zcj(d:(Option zH))(n_1:Int):Option zir:=(zok d n_1).run (zfe d n_1)
theorem zxB(d:(Option zH))(n_1:Int):Oks 61 [.op .sDuctDucts d,(zg n_1)] [] (zcj d n_1) zB9:=zM K0 (H:=zCy) zJ Tryz.func61 rfl (by kernel_rfl) (zBS d n_1) (fun J l=>by cases l <;> kernel_rfl) (fun J=>by kernel_rfl)
abbrev R78:=(List LayoutEnd) × (List LayoutEnd)
def to78(r:R78):Ans:=⟨.tup [.own 0,.own 1],[.arr 207 .sLayoutEnd r.1,.arr 207 .sLayoutEnd r.2]⟩
inductive L78 where | l0 (x0:Int) (x1:List LayoutEnd) (x2:List LayoutEnd) | l4 (x0:Int) (x1:Int) (x2:List zb9) (x3:Int) (x4:Int) (x5:List LayoutEnd) (x6:List LayoutEnd) | l23 (x0:Int) (x1:Int) (x2:List zb9) (x3:Int) (x4:Int) (x5:List LayoutEnd) (x6:List LayoutEnd)
def H78:zaa:=htt [11] [(0,⟨fgt [1,4,5,11,12,13] 50 0,[(.slot 4,.own 207 .sLayoutEnd),(.slot 5,.own 207 .sLayoutEnd)]⟩),(4,⟨fgt [1,4,5,6,11,12,13,19,20,21] 50 0,[(.slot 4,.own 207 .sLayoutEnd),(.slot 5,.own 207 .sLayoutEnd)]⟩),(23,⟨fgt [1,4,5,6,11,12,13,19,20,21] 50 0,[(.slot 4,.own 207 .sLayoutEnd),(.slot 5,.own 207 .sLayoutEnd)]⟩)] []
def st78(c:za)(channel:Int):L78->Nat × St | .l0 x0 x1 x2=>(0,⟨mkE [(1,(zg channel)),(4,.own 0),(5,.own 1),(11,.sl .sPartition c.partitions),(12,(zg c.partitions.length)),(13,(zg x0))] 50 0,[.arr 207 .sLayoutEnd x1,.arr 207 .sLayoutEnd x2],GL,0,[],zO⟩) | .l4 x0 x1 x2 x3 x4 x5 x6=>(4,⟨mkE [(1,(zg channel)),(4,.own 0),(5,.own 1),(6,(zg x0)),(11,.sl .sPartition c.partitions),(12,(zg c.partitions.length)),(13,(zg x1)),(19,.sl .sPort x2),(20,(zg x3)),(21,(zg x4))] 50 0,[.arr 207 .sLayoutEnd x5,.arr 207 .sLayoutEnd x6],GL,0,[],zO⟩) | .l23 x0 x1 x2 x3 x4 x5 x6=>(23,⟨mkE [(1,(zg channel)),(4,.own 0),(5,.own 1),(6,(zg x0)),(11,.sl .sPartition c.partitions),(12,(zg c.partitions.length)),(13,(zg x1)),(19,.sl .sPort x2),(20,(zg x3)),(21,(zg x4))] 50 0,[.arr 207 .sLayoutEnd x5,.arr 207 .sLayoutEnd x6],GL,0,[],zO⟩)
def zlT(c:za)(channel:Int):L78->Tree L78 R78 | .l0 x0 x1 x2 =>let y1:=(zb c.partitions x0.toNat).ports;.c (decide (x0<c.partitions.length)) (.g (zN x0 c.partitions.length) <| .j (.l4 x0 x0 y1 (y1.length) 0 x1 x2)) (.r (x1,x2)) | .l4 x0 x1 x2 x3 x4 x5 x6 =>let y1:=(⟨x0,x4⟩:LayoutEnd);let y2:=([y1]:List LayoutEnd);let y3:=(x5:List LayoutEnd);let y4:=(x6:List LayoutEnd);let y5:=zbc x2 x4.toNat;.c (decide (x4<x3)) (.g (zN x4 x2.length) <| .c (!((y5.channel:Int)==channel)) (.j (.l23 x0 x1 x2 x3 x4 x5 x6)) (.c (y5.source) (.g (leB ((y3.length+y2.length)*16) 140737488355328) <| .j (.l23 x0 x1 x2 x3 x4 (y3++[y1]) x6)) (.g (leB ((y4.length+y2.length)*16) 140737488355328) <| .j (.l23 x0 x1 x2 x3 x4 x5 (y4++[y1]))))) (.j (.l0 (i64.wrap (x1+1)) x5 x6)) | .l23 x0 x1 x2 x3 x4 x5 x6=>.j (.l4 x0 x1 x2 x3 (i64.wrap (x4+1)) x5 x6)
def zLT(c:za)(channel:Int):Tree L78 R78:=.j (.l0 0 [] [])
def zhC(c:za)(channel:Int):L78->Option R78:=zan (zlT c channel)
theorem zgE(c:za)(channel:Int)(l:L78):zhC c channel l=(zlT c channel l).run (zhC c channel):=zF _ l
def zpi(c:za)(channel:Int):Option R78:=(zLT c channel).run (zhC c channel)
theorem zNJ(c:za)(channel:Int):Oks 78 [.agg (Ty.enc .sConfig c),(zg channel)] [] (zpi c channel) to78:=zM K0 (H:=H78) zJ Tryz.func78 rfl (by kernel_rfl) (st78 c channel) (fun J l=>by cases l <;> kernel_rfl) (fun J=>by kernel_rfl)
abbrev R93:=Int
def to93(r:R93):Ans:=⟨(zg r),[]⟩
inductive L93 where | l0 (x0:Int)
def H93:zaa:=htt [] [(0,⟨fgt [1,2,5,6] 46 0,[]⟩)] []
def st93(p:zf)(at_1:Int):L93->Nat × St | .l0 x0=>(0,⟨mkE [(1,(zg at_1)),(2,.ref 0 0),(5,(zg (bop .quo .i64 at_1 16))),(6,(zg x0))] 46 0,[.cells 72 (Ty.enc .sPartition p)],GL,0,[],zO⟩)
def zuQ(p:zf)(at_1:Int):L93->Tree L93 R93 | .l0 x0 =>let y1:=zh p.regions x0.toNat;let y2:=bop .quo .i64 at_1 16;let y3:=i64.wrap (x0+1);.c (decide (x0<p.regions.length)) (.g (zN x0 p.regions.length) <| .c (decide ((y2:Int)>=y1.page)) (.c (decide ((y2:Int)<(i64.wrap (y1.page+y1.pages)))) (.r (i64.wrap ((i64.wrap ((i64.wrap ((i64.wrap (y1.frame+y2))-y1.page))*16))+(bop .rem .i64 at_1 16)))) (.j (.l0 y3))) (.j (.l0 y3))) (.r (-1))
def zLW(p:zf)(at_1:Int):Tree L93 R93:=.j (.l0 0)
def zvJ(p:zf)(at_1:Int):L93->Option R93:=zan (zuQ p at_1)
theorem zsG(p:zf)(at_1:Int)(l:L93):zvJ p at_1 l=(zuQ p at_1 l).run (zvJ p at_1):=zF _ l
def zpk(p:zf)(at_1:Int):Option R93:=(zLW p at_1).run (zvJ p at_1)
theorem zNY(p:zf)(at_1:Int):Oks 93 [.agg (Ty.enc .sPartition p),(zg at_1)] [] (zpk p at_1) to93:=zM K0 (H:=H93) zJ Tryz.func93 rfl (by kernel_rfl) (st93 p at_1) (fun J l=>by cases l <;> kernel_rfl) (fun J=>by kernel_rfl)
abbrev zyH:=Int × Int
def zPx(r:zyH):Ans:=⟨.tup [(zg r.1),(zg r.2)],[]⟩
inductive zwD where | l0 (x0:Int) (x1:Int) (x2:Int) | l4 (x0:Int) (x1:Int) (x2:Int) (x3:List zb9) (x4:Int) (x5:Int) | l23 (x0:Int) (x1:Int) (x2:Int) (x3:List zb9) (x4:Int) (x5:Int)
def H155:zaa:=htt [11] [(0,⟨fgt [1,4,5,11,12,13] 40 0,[]⟩),(4,⟨fgt [1,4,5,11,12,13,18,19,20] 40 0,[]⟩),(23,⟨fgt [1,4,5,11,12,13,18,19,20] 40 0,[]⟩)] []
def zOy(c:za)(h_1:Int):zwD->Nat × St | .l0 x0 x1 x2=>(0,⟨mkE [(1,(zg h_1)),(4,(zg x0)),(5,(zg x1)),(11,.sl .sPartition c.partitions),(12,(zg c.partitions.length)),(13,(zg x2))] 40 0,[],GL,0,[],zO⟩) | .l4 x0 x1 x2 x3 x4 x5=>(4,⟨mkE [(1,(zg h_1)),(4,(zg x0)),(5,(zg x1)),(11,.sl .sPartition c.partitions),(12,(zg c.partitions.length)),(13,(zg x2)),(18,.sl .sPort x3),(19,(zg x4)),(20,(zg x5))] 40 0,[],GL,0,[],zO⟩) | .l23 x0 x1 x2 x3 x4 x5=>(23,⟨mkE [(1,(zg h_1)),(4,(zg x0)),(5,(zg x1)),(11,.sl .sPartition c.partitions),(12,(zg c.partitions.length)),(13,(zg x2)),(18,.sl .sPort x3),(19,(zg x4)),(20,(zg x5))] 40 0,[],GL,0,[],zO⟩)
def zhJ(c:za)(h_1:Int):zwD->Tree zwD zyH | .l0 x0 x1 x2 =>let y1:=(zb c.partitions x2.toNat).ports;.c (decide (x2<c.partitions.length)) (.g (zN x2 c.partitions.length) <| .j (.l4 x0 x1 x2 y1 (y1.length) 0)) (.r (x0,x1)) | .l4 x0 x1 x2 x3 x4 x5 =>let y1:=zbc x3 x5.toNat;.c (decide (x5<x4)) (.g (zN x5 x3.length) <| .c (!((y1.channel:Int)==h_1)) (.j (.l23 x0 x1 x2 x3 x4 x5)) (.c (y1.source) (.j (.l23 (i64.wrap (x0+1)) x1 x2 x3 x4 x5)) (.j (.l23 x0 (i64.wrap (x1+1)) x2 x3 x4 x5)))) (.j (.l0 x0 x1 (i64.wrap (x2+1)))) | .l23 x0 x1 x2 x3 x4 x5=>.j (.l4 x0 x1 x2 x3 x4 (i64.wrap (x5+1)))
def zGS(c:za)(h_1:Int):Tree zwD zyH:=.j (.l0 0 0 0)
def zeS(c:za)(h_1:Int):zwD->Option zyH:=zan (zhJ c h_1)
theorem zff(c:za)(h_1:Int)(l:zwD):zeS c h_1 l=(zhJ c h_1 l).run (zeS c h_1):=zF _ l
def zqP(c:za)(h_1:Int):Option zyH:=(zGS c h_1).run (zeS c h_1)
theorem zH6(c:za)(h_1:Int):Oks 155 [.agg (Ty.enc .sConfig c),(zg h_1)] [] (zqP c h_1) zPx:=zM K0 (H:=H155) zJ Tryz.func155 rfl (by kernel_rfl) (zOy c h_1) (fun J l=>by cases l <;> kernel_rfl) (fun J=>by kernel_rfl)
abbrev R72:=Bool
def to72(r:R72):Ans:=⟨(avB r),[]⟩
inductive L72 where | l0 (x0:Int)
def H72:zaa:=htt [] [(0,⟨fgt [1,2,3,4,9] 47 0,[]⟩)] []
def st72(c:za)(p:Int)(channel:Int)(source:Bool):L72->Nat × St | .l0 x0=>(0,⟨mkE [(1,(zg p)),(2,(zg channel)),(3,(avB source)),(4,.ref 0 0),(9,(zg x0))] 47 0,[.cells 26 (Ty.enc .sConfig c)],GL,0,[],zO⟩)
def zuN(c:za)(p:Int)(channel:Int)(source:Bool):L72->Tree L72 R72 | .l0 x0 =>let y1:=(zb c.partitions p.toNat).ports;let y2:=zN p c.partitions.length;let y3:=i64.wrap (x0+1);let y4:=zbc y1 x0.toNat;.g y2 <| .c (decide (x0<y1.length)) (.g y2 <| .g (zN x0 y1.length) <| .c ((y4.channel:Int)==channel) (.g y2 <| .g (zN x0 y1.length) <| .c ((y4.source)==source) (.r true) (.j (.l0 y3))) (.j (.l0 y3))) (.r false)
def zEG(c:za)(p:Int)(channel:Int)(source:Bool):Tree L72 R72:=.j (.l0 0)
def zvG(c:za)(p:Int)(channel:Int)(source:Bool):L72->Option R72:=zan (zuN c p channel source)
theorem zsB(c:za)(p:Int)(channel:Int)(source:Bool)(l:L72):zvG c p channel source l=(zuN c p channel source l).run (zvG c p channel source):=zF _ l
def zvS(c:za)(p:Int)(channel:Int)(source:Bool):Option R72:=(zEG c p channel source).run (zvG c p channel source)
theorem zND(c:za)(p:Int)(channel:Int)(source:Bool):Oks 72 [.agg (Ty.enc .sConfig c),(zg p),(zg channel),(avB source)] [] (zvS c p channel source) to72:=zM K0 (H:=H72) zJ Tryz.func72 rfl (by kernel_rfl) (st72 c p channel source) (fun J l=>by cases l <;> kernel_rfl) (fun J=>by kernel_rfl)
abbrev R148:=Int
def zPq(r:R148):Ans:=⟨(zg r),[]⟩
def zmL(h_0:zI):R148:=Tree.val (L:=Empty) <|
 .c (decide ((h_0.words:Int)<1))
 (.r 0)
 (.c (decide ((h_0.words:Int)>16))
 (.r 0)
 (.c ((h_0.kind:Int)==1)
 (.r h_0.words)
 (.c ((h_0.kind:Int)==2)
 (.c (decide ((h_0.depth:Int)>=1))
 (.c (decide ((h_0.depth:Int)<=8))
 (.r (i64.wrap (h_0.depth*(i64.wrap (1+h_0.words)))))
 (.r 0))
 (.r 0))
 (.r 0))))
theorem zHZ(h_0:zI):Oks 148 [.agg (Ty.enc .sChannel h_0)] [] (some (zmL h_0)) zPq:=zbt K0 (H:=H0) zJ Tryz.func148 rfl (by kernel_rfl) rfl (fun J=>by kernel_rfl)
abbrev R25:=(List z6)
def to25(r:R25):Ans:=⟨.own 0,[.row 85 .sFeed [(2,46)] [] r]⟩
inductive L25 where | l0 (x0:Int) (x1:List z6)
def H25:zaa:=⟨fun n=>[].any (Nat.beq n),zgf [(0,⟨fgt [0,3,4] 31 0,[(.slot 3,.own 85 .sFeed)]⟩)],[],G0,(fun e=>match e with | 85=>[(2,46)] | _=>[])⟩
def st25(l_0:(List z6)):L25->Nat × St | .l0 x0 x1=>(0,⟨mkE [(0,.sl .sFeed l_0),(3,.own 0),(4,(zg x0))] 31 0,[.row 85 .sFeed [(2,46)] [] x1],GL,0,[],(fun e=>match e with | 85=>[(2,46)] | _=>[])⟩)
def zuF(l_0:(List z6)):L25->Tree L25 R25 | .l0 x0 x1 =>let y2:=zA l_0 x0.toNat;let y1:=(⟨y2.partition,y2.epoch,(([]:List Int)++y2.words)⟩:z6);.c (decide (x0<l_0.length)) (.g (zN x0 l_0.length) <| .g (zN x0 l_0.length) <| .g (leB ((([]:List Int).length+(y2.words:List Int).length)*4) 140737488355328) <| .g (leB (((x1:List z6).length+([y1]:List z6).length)*40) 140737488355328) <| .j (.l0 (i64.wrap (x0+1)) ((x1:List z6)++[y1]))) (.r x1)
def zEj(l_0:(List z6)):Tree L25 R25:=.j (.l0 0 [])
def zsl(l_0:(List z6)):L25->Option R25:=zan (zuF l_0)
theorem zsm(l_0:(List z6))(l:L25):zsl l_0 l=(zuF l_0 l).run (zsl l_0):=zF _ l
def zsL(l_0:(List z6)):Option R25:=(zEj l_0).run (zsl l_0)
theorem zMV(l_0:(List z6)):Oks 25 [.sl .sFeed l_0] [] (zsL l_0) to25:=zM K0 (H:=H25) zJ Tryz.func25 rfl (by kernel_rfl) (st25 l_0) (fun J l=>by cases l <;> kernel_rfl) (fun J=>by kernel_rfl)
abbrev zyD:=zx
def zPr(r:zyD):Ans:=⟨.agg [(zg r.e),(zg r.where_.first),(zg r.where_.second)],[]⟩
inductive zwz where | l0 (x0:Int)
def H149:zaa:=htt [] [(0,⟨fgt [2,5,6,7] 17 0,[]⟩)] []
def zOu(l_0:(List zx)):zwz->Nat × St | .l0 x0=>(0,⟨mkE [(2,.ref 0 0),(5,.sl .sAdmitFound l_0),(6,(zg l_0.length)),(7,(zg x0))] 17 0,[.cells 194 [(zg 0),(zg 0),(zg 0)]],GL,0,[],zO⟩)
def zpM(l_0:(List zx)):zwz->Tree zwz zyD | .l0 x0 =>let y1:=zdW l_0 x0.toNat;.c (decide (x0<l_0.length)) (.g (zN x0 l_0.length) <| .c (!(((y1.e:Int)==fine.e)&&((((y1.where_.first:Int)==fine.where_.first)&&(((y1.where_.second:Int)==fine.where_.second)&&true))&&true))) (.r y1) (.j (.l0 (i64.wrap (x0+1))))) (.r fine)
def zGQ(l_0:(List zx)):Tree zwz zyD:=.j (.l0 0)
def zqw(l_0:(List zx)):zwz->Option zyD:=zan (zpM l_0)
theorem zo1(l_0:(List zx))(l:zwz):zqw l_0 l=(zpM l_0 l).run (zqw l_0):=zF _ l
def zbv(l_0:(List zx)):Option zyD:=(zGQ l_0).run (zqw l_0)
theorem zH0(l_0:(List zx)):Oks 149 [.sl .sAdmitFound l_0] [] (zbv l_0) zPr:=zM K0 (H:=H149) zJ Tryz.func149 rfl (by kernel_rfl) (zOu l_0) (fun J l=>by cases l <;> kernel_rfl) (fun J=>by kernel_rfl)
abbrev R175:=Int × Int × Bool
def zPL(r:R175):Ans:=⟨.tup [(zg r.1),(zg r.2.1),(avB r.2.2)],[]⟩
def zk7(entry_0:Int):R175:=Tree.val (L:=Empty) <|
 .c (((bop .and .u32 entry_0 2147483648):Int)==0)
 (.r (0,0,false))
 (.r ((i64.wrap (bop .and .u32 (bop .shr .u32 entry_0 3) 1023)),(i64.wrap (bop .and .u32 entry_0 7)),true))
theorem zIq(entry_0:Int):Oks 175 [(zr entry_0)] [] (some (zk7 entry_0)) zPL:=zbt K0 (H:=H0) zJ Tryz.func175 rfl (by kernel_rfl) rfl (fun J=>by kernel_rfl)
abbrev R68:=zaM × Int × zah
def to68(r:R68):Ans:=⟨.tup [.agg [(zr r.1.one),(zr r.1.two),(zr r.1.three)],(zg r.2.1)],[.cells 116 [.op .sCallsCalls r.2.2.calls,.ref 1 0,(zg r.2.2.p),(zg r.2.2.epoch),(zr r.2.2.x.regs.e0),(zr r.2.2.x.regs.e1),(zr r.2.2.x.regs.e2),(zr r.2.2.x.regs.e3),(zr r.2.2.x.regs.e4),(zr r.2.2.x.regs.e5),(zr r.2.2.x.regs.e6),(zr r.2.2.x.regs.e7),(zr r.2.2.x.regs.e8),(zr r.2.2.x.regs.e9),(zr r.2.2.x.regs.e10),(zr r.2.2.x.regs.e11),(zr r.2.2.x.regs.e12),(zr r.2.2.x.regs.e13),(zr r.2.2.x.regs.e14),(zr r.2.2.x.regs.e15),(zr r.2.2.x.pC)],.cells 112 [.own 2],.arr 46 (.i .u32) ((r.2.2.m.getD default).words)]⟩
def zfd(s:(Option zq))(p:Int)(epoch:Int)(x:zB)(ws:List Int):R68:=((⟨0,(u32.wrap p),(u32.wrap epoch)⟩:zaM),0,(⟨s,(some (⟨ws⟩:ze)),p,epoch,x⟩:zah))
theorem zNz(s:(Option zq))(p:Int)(epoch:Int)(x:zB)(ws:List Int):Oks 68 [.ref 0 0] [.cells 116 [.op .sCallsCalls s,.ref 1 0,(zg p),(zg epoch),(zr x.regs.e0),(zr x.regs.e1),(zr x.regs.e2),(zr x.regs.e3),(zr x.regs.e4),(zr x.regs.e5),(zr x.regs.e6),(zr x.regs.e7),(zr x.regs.e8),(zr x.regs.e9),(zr x.regs.e10),(zr x.regs.e11),(zr x.regs.e12),(zr x.regs.e13),(zr x.regs.e14),(zr x.regs.e15),(zr x.pC)],.cells 112 [.own 2],.arr 46 (.i .u32) ws] (some (zfd s p epoch x ws)) to68:=zbh K0 (H:=H0) zJ Tryz.func68 rfl (by kernel_rfl) (fun J=>by kernel_rfl)
abbrev R35:=(List Int)
def zJq(r:R35):Ans:=⟨.own 0,[.arr 46 (.i .u32) r]⟩
def H35:zaa:=⟨fun _=>false,fun _=>⟨[],[]⟩,[(.slot 0,.own 46 (.i .u32))],G0,zO⟩
theorem zA1(A:Option Addr)(c:Nat):Oks 35 [.v (.slice A 0 c)] [] (some []) zJq:=by
 cases A with
 | none=>exact zbh K0 (H:=H35) zJ Tryz.func35 rfl (by kernel_rfl) (fun J=>by kernel_rfl)
 | some ad=>exact zbh K0 (H:=H35) zJ Tryz.func35 rfl (by kernel_rfl) (fun J=>by kernel_rfl)
def zgL(s_0:(List Int)):Option R35:=cond (leB (s_0.length*4) 140737488355328) (some s_0) none
theorem zA0(s_0:(List Int)):Oks 35 [.sl (.i .u32) s_0] [] (Tree.run0 <| .c (Nat.beq s_0.length 0) (.n) (.g (leB ((([]:List Int).length+(s_0:List Int).length)*4) 140737488355328) <| .r (([]:List Int)++s_0))) zJq:=
 zL K0 (H:=H0) zJ Tryz.func35 rfl (by kernel_rfl) (fun J=>by kernel_rfl)
theorem zM5(s_0:(List Int)):Oks 35 [.sl (.i .u32) s_0] [] (zgL s_0) zJq:=by
 cases s_0 with
 | cons y l=>
  refine⟨(zA0 (y :: l)).1,fun x hx=>(zA0 (y :: l)).2 x ?_⟩
  rw[← hx]
  unfold zgL
  simp only[Tree.run0,Tree.run,List.length_nil,Nat.zero_add,List.nil_append,List.length_cons]
  rfl
 | nil=>
  refine⟨(zA1 none 0).1,fun x hx F w β vs hh hg hl hv=>?_⟩
  cases hx
  obtain ⟨A,c,h⟩:=zpD (hv 0 (by decide))
  refine(zA1 A c).2 [] rfl F w β vs hh hg hl fun j hj=>?_
  have hj0:j=0:=by
   have:j<1:=hj
   omega
  subst hj0
  rw[h]
  exact .v _
abbrev R115:=Bool
def zOZ(r:R115):Ans:=⟨(avB r),[]⟩
def zaZ(n_0:Int)(least:Int)(most:Int):R115:=Tree.val (L:=Empty) <|
 .c (decide ((n_0:Int)>=least))
 (.r (decide ((n_0:Int)<=most)))
 (.r false)
theorem zHE(n_0:Int)(least:Int)(most:Int):Oks 115 [(zg n_0),(zg least),(zg most)] [] (some (zaZ n_0 least most)) zOZ:=zbt K0 (H:=H0) zJ Tryz.func115 rfl (by kernel_rfl) rfl (fun J=>by kernel_rfl)
abbrev R154:=zaY
def zPw(r:R154):Ans:=⟨.agg [(zg r.first),(zg r.second)],[]⟩
def zdG(first:Int)(second:Int):R154:=(⟨first,second⟩:zaY)
theorem zH5(first:Int)(second:Int):Oks 154 [(zg first),(zg second)] [] (some (zdG first second)) zPw:=zbh K0 (H:=H0) zJ Tryz.func154 rfl (by kernel_rfl) (fun J=>by kernel_rfl)
abbrev R151:=zaY
def zPt(r:R151):Ans:=⟨.agg [(zg r.first),(zg r.second)],[]⟩
def za2(first:Int):R151:=(⟨first,(-1)⟩:zaY)
theorem zH2(first:Int):Oks 151 [(zg first)] [] (some (za2 first)) zPt:=zbh K0 (H:=H0) zJ Tryz.func151 rfl (by kernel_rfl) (fun J=>by kernel_rfl)
abbrev R29:=Bool × (List z6)
def to29(r:R29):Ans:=⟨(avB r.1),[.row 85 .sFeed [(2,46)] [] r.2]⟩
inductive L29 where | l0 (x0:Bool) (x1:Int) (x2:List z6) | l4 (x0:Bool) (x1:Int) (x2:Int) (x3:List z6)
def H29:zaa:=⟨fun n=>[].any (Nat.beq n),zgf [(0,⟨fgt [0,1,5,6] 107 0,[]⟩),(4,⟨fgt [0,1,5,6,7] 107 0,[(.slot 0,.home)]⟩)],[],G0,(fun e=>match e with | 85=>[(2,46)] | _=>[])⟩
def st29(was:(List z6))(rowF:List z6):L29->Nat × St | .l0 x0 x1 x2=>(0,⟨mkE [(0,.own 0),(1,.sl .sFeed was),(5,(avB x0)),(6,(zg x1))] 107 0,[.row 85 .sFeed [(2,46)] [] x2],GL,1,[],(fun e=>match e with | 85=>[(2,46)] | _=>[])⟩) | .l4 x0 x1 x2 x3=>(4,⟨mkE [(0,.own 0),(1,.sl .sFeed was),(5,(avB x0)),(6,(zg x1)),(7,(zg x2))] 107 0,[.row 85 .sFeed [(2,46)] [] x3],GL,1,[],(fun e=>match e with | 85=>[(2,46)] | _=>[])⟩)
def zn6(was:(List z6))(rowF:List z6):L29->Tree L29 R29 | .l0 x0 x1 x2 =>let y1:=zA x2 x1.toNat;let y2:=zA was x1.toNat;let y3:=zN x1 was.length;let y4:=zN x1 x2.length;.c x0 (.c (decide (x1<x2.length)) (.g y4 <| .g y3 <| .c ((y1.partition:Int)==y2.partition) (.g y4 <| .g y3 <| .c ((y1.epoch:Int)==y2.epoch) (.g y4 <| .g y3 <| .j (.l4 (((y1.words).length:Int)==(y2.words).length) x1 0 (List.set x2 x1.toNat y1))) (.j (.l4 false x1 0 x2))) (.j (.l4 false x1 0 x2))) (.r (x0,x2))) (.r (x0,x2)) | .l4 x0 x1 x2 x3 =>let y1:=zA x3 x1.toNat;let y3:=(List.set x3 x1.toNat (⟨y1.partition,(i64.wrap (y1.epoch+1)),y1.words⟩:z6));let y4:=zN x1 x3.length;let y5:=(zA was x1.toNat).words;let y6:=i64.wrap (x1+1);let y7:=List.set x3 x1.toNat y1;let y2:=zA y7 x1.toNat;.c x0 (.g (zN x1 was.length) <| .c (decide (x2<y5.length)) (.g y4 <| .g (zN x2 (y1.words).length) <| .g (zN x1 was.length) <| .g (zN x2 y5.length) <| .g y4 <| .g (zN x2 (y2.words).length) <| .j (.l4 ((zw (y1.words) x2.toNat:Int)==zw y5 x2.toNat) x1 (i64.wrap (x2+1)) (List.set y7 x1.toNat (⟨y2.partition,y2.epoch,(List.set (y2.words) x2.toNat 12345)⟩:z6)))) (.g y4 <| .g y4 <| .j (.l0 x0 y6 y3))) (.g y4 <| .g y4 <| .j (.l0 x0 y6 y3))
def zEl(was:(List z6))(rowF:List z6):Tree L29 R29:=.j (.l0 ((rowF.length:Int)==was.length) 0 rowF)
def zhB(was:(List z6))(rowF:List z6):L29->Option R29:=zan (zn6 was rowF)
theorem zi6(was:(List z6))(rowF:List z6)(l:L29):zhB was rowF l=(zn6 was rowF l).run (zhB was rowF):=zF _ l
def zlc(was:(List z6))(rowF:List z6):Option R29:=(zEl was rowF).run (zhB was rowF)
theorem zMZ(was:(List z6))(rowF:List z6):Oks 29 [.own 0,.sl .sFeed was] [.row 85 .sFeed [(2,46)] [] rowF] (zlc was rowF) to29:=zM K0 (H:=H29) zJ Tryz.func29 rfl (by kernel_rfl) (st29 was rowF) (fun J l=>by cases l <;> kernel_rfl) (fun J=>by kernel_rfl)
abbrev R23:=Bool
def to23(r:R23):Ans:=⟨(avB r),[]⟩
inductive L23 where | l0 (x0:Int) (x1:Int) | l4 (x0:Int) (x1:Int)
def H23:zaa:=htt [] [(0,⟨fgt [1,3,4] 66 0,[]⟩),(4,⟨fgt [1,3,5] 66 0,[]⟩)] []
def st23(c:za):L23->Nat × St | .l0 x0 x1=>(0,⟨mkE [(1,.ref 0 0),(3,(zg x0)),(4,(zg x1))] 66 0,[.cells 26 (Ty.enc .sConfig c)],GL,0,[],zO⟩) | .l4 x0 x1=>(4,⟨mkE [(1,.ref 0 0),(3,(zg x0)),(5,(zg x1))] 66 0,[.cells 26 (Ty.enc .sConfig c)],GL,0,[],zO⟩)
def zn4(c:za):L23->Tree L23 R23 | .l0 x0 x1=>.c (decide (x1<c.cores.length)) (.c (decide (x0<=2147483647)) (.g (zN x1 c.cores.length) <| .j (.l0 (i64.wrap (x0+(zD c.cores x1.toNat).length)) (i64.wrap (x1+1)))) (.j (.l4 x0 0))) (.j (.l4 x0 0)) | .l4 x0 x1 =>let y1:=zb c.partitions x1.toNat;let y2:=zN x1 c.partitions.length;let y3:=decide (x0>2147483647);.c (decide (x1<c.partitions.length)) (.c (decide (x0<=2147483647)) (.g y2 <| .g y2 <| .j (.l4 (i64.wrap ((i64.wrap (x0+(y1.regions).length))+(y1.ports).length)) (i64.wrap (x1+1)))) (.r y3)) (.r y3)
def zLP(c:za):Tree L23 R23:=.j (.l0 (i64.wrap ((i64.wrap (c.cores.length+c.partitions.length))+c.channels.length)) 0)
def zsk(c:za):L23->Option R23:=zan (zn4 c)
theorem zi4(c:za)(l:L23):zsk c l=(zn4 c l).run (zsk c):=zF _ l
def zBH(c:za):Option R23:=(zLP c).run (zsk c)
theorem zMT(c:za):Oks 23 [.agg (Ty.enc .sConfig c)] [] (zBH c) to23:=zM K0 (H:=H23) zJ Tryz.func23 rfl (by kernel_rfl) (st23 c) (fun J l=>by cases l <;> kernel_rfl) (fun J=>by kernel_rfl)
abbrev R61:=zbw
def to61(r:R61):Ans:=⟨.ifc 239 (.agg [(zg r.ends.stage),(zg r.ends.words),.own 0,(zg r.depth)]),[.arr 3 (.i .i64) r.ends.ports]⟩
inductive L61 where | l0 (x0:Int) (x1:List Int)
def H61:zaa:=htt [] [(0,⟨fgt [5,6,37,38,39] 62 0,[(.box 6 2,.own 3 (.i .i64))]⟩)] [(.slot 0,.ift 239)]
def st61(d:(Option zH))(n_1:Int):L61->Nat × St | .l0 x0 x1=>(0,⟨mkE [(5,.ref 0 0),(6,.ref 1 0),(37,.sl .sDestPlace ((zG ((d.getD default).lay.channels) n_1.toNat).dests)),(38,(zg (((zG ((d.getD default).lay.channels) n_1.toNat).dests).length))),(39,(zg x0))] 62 0,[.cells 76 (Ty.enc .sChannel (zu ((d.getD default).c.channels) n_1.toNat)),.cells 237 [(zg ((zG ((d.getD default).lay.channels) n_1.toNat).stage)),(zg ((zu ((d.getD default).c.channels) n_1.toNat).words)),.own 2],.arr 3 (.i .i64) x1],GL,0,[],zO⟩)
def zuK(d:(Option zH))(n_1:Int):L61->Tree L61 R61 | .l0 x0 x1 =>let y1:=zG ((d.getD default).lay.channels) n_1.toNat;let y2:=zu ((d.getD default).c.channels) n_1.toNat;let y3:=zcC (y1.dests) x0.toNat;.c (decide (x0<(y1.dests).length)) (.g (zN x0 (y1.dests).length) <| .g (leB (((x1:List Int).length+([y3.at_]:List Int).length)*8) 140737488355328) <| .j (.l0 (i64.wrap (x0+1)) ((x1:List Int)++[y3.at_]))) (.g ((y2.kind:Int)==2) <| .r (⟨(⟨y1.stage,y2.words,x1⟩:zds),y2.depth⟩:zbw))
def zEB(d:(Option zH))(n_1:Int):Tree L61 R61:=.g d.isSome <| .g (zN n_1 ((d.getD default).c.channels).length) <| .g d.isSome <| .g (zN n_1 ((d.getD default).lay.channels).length) <| .g d.isSome <| .g (zN n_1 ((d.getD default).lay.channels).length) <| .j (.l0 0 [])
def zsv(d:(Option zH))(n_1:Int):L61->Option R61:=zan (zuK d n_1)
theorem zsw(d:(Option zH))(n_1:Int)(l:L61):zsv d n_1 l=(zuK d n_1 l).run (zsv d n_1):=zF _ l
def zjn(d:(Option zH))(n_1:Int):Option R61:=(zEB d n_1).run (zsv d n_1)
theorem zNs(d:(Option zH))(n_1:Int):Oks 61 [.op .sDuctDucts d,(zg n_1)] [] (zjn d n_1) to61:=zM K0 (H:=H61) zJ Tryz.func61 rfl (by kernel_rfl) (st61 d n_1) (fun J l=>by cases l <;> kernel_rfl) (fun J=>by kernel_rfl)
abbrev zyJ:=Bool
def zPB(r:zyJ):Ans:=⟨(avB r),[]⟩
inductive zwF where | l0 (x0:Int)
def H159:zaa:=htt [] [(0,⟨fgt [0,3] 49 0,[]⟩)] []
def zOA(s_0:ByteArray):zwF->Nat × St | .l0 x0=>(0,⟨mkE [(0,.v (.string s_0)),(3,(zg x0))] 49 0,[],GL,0,[],zO⟩)
def zpP(s_0:ByteArray):zwF->Tree zwF zyJ | .l0 x0 =>let y1:=((zcw s_0 x0.toNat):Int);let y2:=i64.wrap (x0+1);let y3:=!(y1==45);.c (decide (x0<s_0.size)) (.g (zN x0 s_0.size) <| .c (decide (y1<97)) (.c (decide (y1<48)) (.c y3 (.r false) (.j (.l0 y2))) (.c (decide (y1>57)) (.c y3 (.r false) (.j (.l0 y2))) (.j (.l0 y2)))) (.c (decide (y1>122)) (.c (decide (y1<48)) (.c y3 (.r false) (.j (.l0 y2))) (.c (decide (y1>57)) (.c y3 (.r false) (.j (.l0 y2))) (.j (.l0 y2)))) (.j (.l0 y2)))) (.r true)
def zzN(s_0:ByteArray):Tree zwF zyJ:=.c (s_0.toList==(ByteArray.mk #[]).toList) (.r false) (.c (decide ((s_0.size:Int)>16)) (.r false) (.g (zN 0 s_0.size) <| .c (decide (((zcw s_0 0):Int)<97)) (.r false) (.g (zN 0 s_0.size) <| .c (decide (((zcw s_0 0):Int)>122)) (.r false) (.j (.l0 0)))))
def zmT(s_0:ByteArray):zwF->Option zyJ:=zan (zpP s_0)
theorem zo4(s_0:ByteArray)(l:zwF):zmT s_0 l=(zpP s_0 l).run (zmT s_0):=zF _ l
def zqQ(s_0:ByteArray):Option zyJ:=(zzN s_0).run (zmT s_0)
theorem zIa(s_0:ByteArray):Oks 159 [.v (.string s_0)] [] (zqQ s_0) zPB:=zM K0 (H:=H159) zJ Tryz.func159 rfl (by kernel_rfl) (zOA s_0) (fun J l=>by cases l <;> kernel_rfl) (fun J=>by kernel_rfl)
abbrev R81:=Int
def to81(r:R81):Ans:=⟨(zg r),[]⟩
inductive L81 where | l0 (x0:Int) (x1:Bool) (x2:Bool) (x3:Bool) (x4:Bool) (x5:Bool) (x6:Bool) (x7:Bool) (x8:Bool) (x9:Bool) (x10:Bool) (x11:Bool) (x12:Bool) (x13:Bool) (x14:Bool) (x15:Bool) (x16:Bool) | l4 (x0:Int) (x1:Int) (x2:Int) (x3:Bool) (x4:Bool) (x5:Bool) (x6:Bool) (x7:Bool) (x8:Bool) (x9:Bool) (x10:Bool) (x11:Bool) (x12:Bool) (x13:Bool) (x14:Bool) (x15:Bool) (x16:Bool) (x17:Bool) (x18:Bool) (x19:Int) (x20:Int) (x21:Int) (x22:Int) | l8 (x0:Int) (x1:Bool) (x2:Bool) (x3:Bool) (x4:Bool) (x5:Bool) (x6:Bool) (x7:Bool) (x8:Bool) (x9:Bool) (x10:Bool) (x11:Bool) (x12:Bool) (x13:Bool) (x14:Bool) (x15:Bool) (x16:Bool) (x17:Int) | l35 (x0:Int) (x1:Bool) (x2:Bool) (x3:Bool) (x4:Bool) (x5:Bool) (x6:Bool) (x7:Bool) (x8:Bool) (x9:Bool) (x10:Bool) (x11:Bool) (x12:Bool) (x13:Bool) (x14:Bool) (x15:Bool) (x16:Bool) (x17:Int)
def H81:zaa:=htt [17] [(0,⟨fgt [3,11,12,13] 39 0,[]⟩),(4,⟨fgt [3,5,11,12,13,18,19] 39 0,[]⟩),(8,⟨fgt [7,30,31] 39 0,[]⟩),(35,⟨fgt [7,30,31] 39 0,[]⟩)] []
def st81(x:zf):L81->Nat × St | .l0 x0 x1 x2 x3 x4 x5 x6 x7 x8 x9 x10 x11 x12 x13 x14 x15 x16=>(0,⟨mkE [(3,.ref 0 0),(11,.sl .sRegion x.regions),(12,(zg x.regions.length)),(13,(zg x0))] 39 0,[.cells 264 [(avB x1),(avB x2),(avB x3),(avB x4),(avB x5),(avB x6),(avB x7),(avB x8),(avB x9),(avB x10),(avB x11),(avB x12),(avB x13),(avB x14),(avB x15),(avB x16)]],GL,0,[],zO⟩) | .l4 x0 x1 x2 x3 x4 x5 x6 x7 x8 x9 x10 x11 x12 x13 x14 x15 x16 x17 x18 x19 x20 x21 x22=>(4,⟨mkE [(3,.ref 0 0),(5,.ref 1 0),(11,.sl .sRegion x.regions),(12,(zg x.regions.length)),(13,(zg x0)),(18,(zg x1)),(19,(zg x2))] 39 0,[.cells 264 [(avB x3),(avB x4),(avB x5),(avB x6),(avB x7),(avB x8),(avB x9),(avB x10),(avB x11),(avB x12),(avB x13),(avB x14),(avB x15),(avB x16),(avB x17),(avB x18)],.cells 138 [(zg x19),(zg x20),(zg x21),(zg x22)]],GL,0,[],zO⟩) | .l8 x0 x1 x2 x3 x4 x5 x6 x7 x8 x9 x10 x11 x12 x13 x14 x15 x16 x17=>(8,⟨mkE [(7,(zg x0)),(30,.agg [(avB x1),(avB x2),(avB x3),(avB x4),(avB x5),(avB x6),(avB x7),(avB x8),(avB x9),(avB x10),(avB x11),(avB x12),(avB x13),(avB x14),(avB x15),(avB x16)]),(31,(zg x17))] 39 0,[],GL,0,[],zO⟩) | .l35 x0 x1 x2 x3 x4 x5 x6 x7 x8 x9 x10 x11 x12 x13 x14 x15 x16 x17=>(35,⟨mkE [(7,(zg x0)),(30,.agg [(avB x1),(avB x2),(avB x3),(avB x4),(avB x5),(avB x6),(avB x7),(avB x8),(avB x9),(avB x10),(avB x11),(avB x12),(avB x13),(avB x14),(avB x15),(avB x16)]),(31,(zg x17))] 39 0,[],GL,0,[],zO⟩)
def zix(x:zf):L81->Tree L81 R81 | .l0 x0 x1 x2 x3 x4 x5 x6 x7 x8 x9 x10 x11 x12 x13 x14 x15 x16=>.c (decide (x0<x.regions.length)) (.g (zN x0 x.regions.length) <| .j (.l4 x0 ((zh x.regions x0.toNat).pages) 0 x1 x2 x3 x4 x5 x6 x7 x8 x9 x10 x11 x12 x13 x14 x15 x16 ((zh x.regions x0.toNat).page) ((zh x.regions x0.toNat).pages) ((zh x.regions x0.toNat).frame) ((zh x.regions x0.toNat).rights))) (.j (.l8 0 x1 x2 x3 x4 x5 x6 x7 x8 x9 x10 x11 x12 x13 x14 x15 x16 0)) | .l4 x0 x1 x2 x3 x4 x5 x6 x7 x8 x9 x10 x11 x12 x13 x14 x15 x16 x17 x18 x19 x20 x21 x22 =>let y2:=bop .quo .i64 (i64.wrap (x19+x2)) 16;let y1:=(List.set ([x3,x4,x5,x6,x7,x8,x9,x10,x11,x12,x13,x14,x15,x16,x17,x18]:List Bool) (y2.toNat) true);.c (decide (x2<x1)) (.g (zN y2 16) <| .j (.l4 x0 x1 (i64.wrap (x2+1)) (zbH y1 0) (zbH y1 1) (zbH y1 2) (zbH y1 3) (zbH y1 4) (zbH y1 5) (zbH y1 6) (zbH y1 7) (zbH y1 8) (zbH y1 9) (zbH y1 10) (zbH y1 11) (zbH y1 12) (zbH y1 13) (zbH y1 14) (zbH y1 15) x19 x20 x21 x22)) (.j (.l0 (i64.wrap (x0+1)) x3 x4 x5 x6 x7 x8 x9 x10 x11 x12 x13 x14 x15 x16 x17 x18)) | .l8 x0 x1 x2 x3 x4 x5 x6 x7 x8 x9 x10 x11 x12 x13 x14 x15 x16 x17=>.c (decide (x17<16)) (.g (zN x17 16) <| .c (zbH ([x1,x2,x3,x4,x5,x6,x7,x8,x9,x10,x11,x12,x13,x14,x15,x16]:List Bool) x17.toNat) (.j (.l35 (i64.wrap (x0+1)) x1 x2 x3 x4 x5 x6 x7 x8 x9 x10 x11 x12 x13 x14 x15 x16 x17)) (.j (.l35 x0 x1 x2 x3 x4 x5 x6 x7 x8 x9 x10 x11 x12 x13 x14 x15 x16 x17))) (.r x0) | .l35 x0 x1 x2 x3 x4 x5 x6 x7 x8 x9 x10 x11 x12 x13 x14 x15 x16 x17=>.j (.l8 x0 x1 x2 x3 x4 x5 x6 x7 x8 x9 x10 x11 x12 x13 x14 x15 x16 (i64.wrap (x17+1)))
def zLU(x:zf):Tree L81 R81:=.j (.l0 0 false false false false false false false false false false false false false false false false)
def zk9(x:zf):L81->Option R81:=zan (zix x)
theorem zev(x:zf)(l:L81):zk9 x l=(zix x l).run (zk9 x):=zF _ l
def zvU(x:zf):Option R81:=(zLU x).run (zk9 x)
theorem zNM(x:zf):Oks 81 [.agg (Ty.enc .sPartition x)] [] (zvU x) to81:=zM K0 (H:=H81) zJ Tryz.func81 rfl (by kernel_rfl) (st81 x) (fun J l=>by cases l <;> kernel_rfl) (fun J=>by kernel_rfl)
abbrev zyM:=(List Int) × Bool
def zPP(r:zyM):Ans:=⟨.tup [.sl (.i .u32) r.1,(avB r.2)],[]⟩
inductive zwM where | l0 (x0:Int)
def H180:zaa:=htt [] [(0,⟨fgt [0,4,19,20,21] 33 0,[]⟩)] [(.slot 0,.sl (.i .u32))]
def zOH(l_0:(List Int)):zwM->Nat × St | .l0 x0=>(0,⟨mkE [(0,.sl (.i .u32) l_0),(4,(zr (zw l_0 0))),(19,.sl (.i .u32) ((l_0.take (l_0.length:Int).toNat).drop (u32.wrap (1+zw l_0 0)).toNat)),(20,(zg (((l_0.take (l_0.length:Int).toNat).drop (u32.wrap (1+zw l_0 0)).toNat).length))),(21,(zg x0))] 33 0,[],GL,0,[],zO⟩)
def zpS(l_0:(List Int)):zwM->Tree zwM zyM | .l0 x0 =>let y1:=u32.wrap (1+zw l_0 0);let y2:=((l_0.take (l_0.length:Int).toNat).drop y1.toNat);let y3:=(l_0.take y1.toNat).drop 1;.c (decide (x0<y2.length)) (.g (zN x0 y2.length) <| .c (!((zw y2 x0.toNat:Int)==0)) (.r ([],false)) (.j (.l0 (i64.wrap (x0+1))))) (.g (inS 1 y1 l_0.length) <| .g (leB ((([]:List Int).length+(y3:List Int).length)*4) 140737488355328) <| .r ((([]:List Int)++y3),true))
def zzU(l_0:(List Int)):Tree zwM zyM:=.g (zN 0 l_0.length) <| .c (decide ((zw l_0 0:Int)>(u32.wrap (i64.wrap (l_0.length-1))))) (.r ([],false)) (.g (inS (u32.wrap (1+zw l_0 0)) l_0.length l_0.length) <| .j (.l0 0))
def zqy(l_0:(List Int)):zwM->Option zyM:=zan (zpS l_0)
theorem zo7(l_0:(List Int))(l:zwM):zqy l_0 l=(zpS l_0 l).run (zqy l_0):=zF _ l
def znh(l_0:(List Int)):Option zyM:=(zzU l_0).run (zqy l_0)
theorem zIv(l_0:(List Int)):Oks 180 [.sl (.i .u32) l_0] [] (znh l_0) zPP:=zM K0 (H:=H180) zJ Tryz.func180 rfl (by kernel_rfl) (zOH l_0) (fun J l=>by cases l <;> kernel_rfl) (fun J=>by kernel_rfl)
abbrev R95:=Int
def to95(r:R95):Ans:=⟨(zg r),[]⟩
inductive L95 where | l0 (x0:Int)
def H95:zaa:=htt [] [(0,⟨fgt [1,2,5] 44 0,[]⟩)] []
def st95(p:zf)(page:Int):L95->Nat × St | .l0 x0=>(0,⟨mkE [(1,(zg page)),(2,.ref 0 0),(5,(zg x0))] 44 0,[.cells 72 (Ty.enc .sPartition p)],GL,0,[],zO⟩)
def zuR(p:zf)(page:Int):L95->Tree L95 R95 | .l0 x0 =>let y1:=zh p.regions x0.toNat;let y2:=zN x0 p.regions.length;let y3:=i64.wrap (x0+1);.c (decide (x0<p.regions.length)) (.g y2 <| .c (decide ((page:Int)>=y1.page)) (.g y2 <| .g y2 <| .c (decide ((page:Int)<(i64.wrap (y1.page+y1.pages)))) (.g y2 <| .r (y1.rights)) (.j (.l0 y3))) (.j (.l0 y3))) (.r 0)
def zLX(p:zf)(page:Int):Tree L95 R95:=.j (.l0 0)
def zvK(p:zf)(page:Int):L95->Option R95:=zan (zuR p page)
theorem zsH(p:zf)(page:Int)(l:L95):zvK p page l=(zuR p page l).run (zvK p page):=zF _ l
def zvZ(p:zf)(page:Int):Option R95:=(zLX p page).run (zvK p page)
theorem zN0(p:zf)(page:Int):Oks 95 [.agg (Ty.enc .sPartition p),(zg page)] [] (zvZ p page) to95:=zM K0 (H:=H95) zJ Tryz.func95 rfl (by kernel_rfl) (st95 p page) (fun J l=>by cases l <;> kernel_rfl) (fun J=>by kernel_rfl)
abbrev zyp:=Int
def zOU(r:zyp):Ans:=⟨(zg r),[]⟩
inductive zwl where | l0 (x0:Int) (x1:Int) | l15 (x0:Int) (x1:Int)
def H110:zaa:=htt [7] [(0,⟨fgt [1,2,3,7,11,12] 37 0,[]⟩),(15,⟨fgt [1,2,3,7,11,12] 37 0,[]⟩)] []
def zOg(p:zf)(channel:Int)(source:Bool):zwl->Nat × St | .l0 x0 x1=>(0,⟨mkE [(1,(zg channel)),(2,(avB source)),(3,.ref 0 0),(7,(zg x0)),(11,(zg p.ports.length)),(12,(zg x1))] 37 0,[.cells 72 (Ty.enc .sPartition p)],GL,0,[],zO⟩) | .l15 x0 x1=>(15,⟨mkE [(1,(zg channel)),(2,(avB source)),(3,.ref 0 0),(7,(zg x0)),(11,(zg p.ports.length)),(12,(zg x1))] 37 0,[.cells 72 (Ty.enc .sPartition p)],GL,0,[],zO⟩)
def zlP(p:zf)(channel:Int)(source:Bool):zwl->Tree zwl zyp | .l0 x0 x1 =>let y1:=zbc p.ports x1.toNat;let y2:=zN x1 p.ports.length;.c (decide (x1<p.ports.length)) (.g y2 <| .c ((y1.channel:Int)==channel) (.g y2 <| .c ((y1.source)==source) (.j (.l15 (i64.wrap (x0+1)) x1)) (.j (.l15 x0 x1))) (.j (.l15 x0 x1))) (.r x0) | .l15 x0 x1=>.j (.l0 x0 (i64.wrap (x1+1)))
def zGL(p:zf)(channel:Int)(source:Bool):Tree zwl zyp:=.j (.l0 0 0)
def zh6(p:zf)(channel:Int)(source:Bool):zwl->Option zyp:=zan (zlP p channel source)
theorem zj9(p:zf)(channel:Int)(source:Bool)(l:zwl):zh6 p channel source l=(zlP p channel source l).run (zh6 p channel source):=zF _ l
def zke(p:zf)(channel:Int)(source:Bool):Option zyp:=(zGL p channel source).run (zh6 p channel source)
theorem zHA(p:zf)(channel:Int)(source:Bool):Oks 110 [.agg (Ty.enc .sPartition p),(zg channel),(avB source)] [] (zke p channel source) zOU:=zM K0 (H:=H110) zJ Tryz.func110 rfl (by kernel_rfl) (zOg p channel source) (fun J l=>by cases l <;> kernel_rfl) (fun J=>by kernel_rfl)
abbrev R32:=(Option zaD) × Int
def to32(r:R32):Ans:=⟨.tup [.op .sBulkheadref05Memory r.1,(zg r.2)],[]⟩
def H32:zaa:=⟨fun _=>false,fun _=>⟨[],[]⟩,[(.slot 0,.op .sBulkheadref05Memory)],G0,zO⟩
def znr(words:(List Int)):Option R32:=Tree.run0 <|
 .c (decide ((words.length:Int)>16384))
 (.r (none,2))
 (.c ((words.length:Int)==0)
 (.r (none,50))
 (.c (!(((bop .rem .i64 words.length 16):Int)==0))
 (.r (none,50))
 (.g (leB ((([]:List Int).length+(words:List Int).length)*4) 140737488355328) <|
 .r ((some (⟨(([]:List Int)++words)⟩:zaD)),0))))
theorem zM2(words:(List Int)):Oks 32 [.sl (.i .u32) words] [] (znr words) to32:=zL K0 (H:=H32) zJ Tryz.func32 rfl (by kernel_rfl) (fun J=>by kernel_rfl)
abbrev R171:=Int
def zPJ(r:R171):Ans:=⟨(zg r),[]⟩
def zgw(m:(Option ze))(f:zy):R171:=Tree.val (L:=Empty) <|
 .c m.isNone
 (.r 3)
 (.c (decide ((f.words:Int)<1))
 (.r 1)
 (.c (decide ((f.words:Int)>16))
 (.r 1)
 (.c (decide ((f.depth:Int)<1))
 (.r 1)
 (.c (decide ((f.depth:Int)>8))
 (.r 1)
 (.r 0)))))
theorem zIm(m:(Option ze))(f:zy):Oks 171 [.op .sMemMemory m,.agg [(zg f.words),(zg f.depth)]] [] (some (zgw m f)) zPJ:=zbt K0 (H:=H0) zJ Tryz.func171 rfl (by kernel_rfl) rfl (fun J=>by kernel_rfl)
abbrev R142:=Bool
def zPm(r:R142):Ans:=⟨(avB r),[]⟩
def zBA(a:z6)(b:z6):R142:=Tree.val (L:=Empty) <|
 .c (!((a.epoch:Int)==b.epoch))
 (.r (decide ((a.epoch:Int)<b.epoch)))
 (.r (decide ((a.partition:Int)<b.partition)))
theorem zHT(a:z6)(b:z6):Oks 142 [.agg (Ty.enc .sFeed a),.agg (Ty.enc .sFeed b)] [] (some (zBA a b)) zPm:=zbt K0 (H:=H0) zJ Tryz.func142 rfl (by kernel_rfl) rfl (fun J=>by kernel_rfl)
abbrev R157:=Bool
def zPz(r:R157):Ans:=⟨(avB r),[]⟩
def zvA(a:Int)(many:Int)(b:Int)(others:Int):R157:=Tree.val (L:=Empty) <|
 .c (decide ((a:Int)<(i64.wrap (b+others))))
 (.r (decide ((b:Int)<(i64.wrap (a+many)))))
 (.r false)
theorem zH8(a:Int)(many:Int)(b:Int)(others:Int):Oks 157 [(zg a),(zg many),(zg b),(zg others)] [] (some (zvA a many b others)) zPz:=zbt K0 (H:=H0) zJ Tryz.func157 rfl (by kernel_rfl) rfl (fun J=>by kernel_rfl)
abbrev R114:=zx
def zOY(r:R114):Ans:=⟨.agg [(zg r.e),(zg r.where_.first),(zg r.where_.second)],[]⟩
def zag(holds:Bool)(e:Int)(w:zaY):R114:=Tree.val (L:=Empty) <|
 .c holds
 (.r fine)
 (.r (⟨e,w⟩:zx))
theorem zHD(holds:Bool)(e:Int)(w:zaY):Oks 114 [(avB holds),(zg e),.agg [(zg w.first),(zg w.second)]] [] (some (zag holds e w)) zOY:=zbt K0 (H:=H0) zJ Tryz.func114 rfl (by kernel_rfl) rfl (fun J=>by kernel_rfl)
abbrev R134:=Bool
def zPe(r:R134):Ans:=⟨(avB r),[]⟩
def zaP(n_0:Int)(least:Int)(most:Int):R134:=Tree.val (L:=Empty) <|
 .c (decide ((n_0:Int)>=least))
 (.r (decide ((n_0:Int)<=most)))
 (.r false)
theorem zHL(n_0:Int)(least:Int)(most:Int):Oks 134 [(zg n_0),(zg least),(zg most)] [] (some (zaP n_0 least most)) zPe:=zbt K0 (H:=H0) zJ Tryz.func134 rfl (by kernel_rfl) rfl (fun J=>by kernel_rfl)
abbrev R96:=zaM
def to96(r:R96):Ans:=⟨.agg [(zr r.one),(zr r.two),(zr r.three)],[]⟩
def zi2(n_0:Int):R96:=(⟨(u32.wrap n_0),0,0⟩:zaM)
theorem zN1(n_0:Int):Oks 96 [(zg n_0)] [] (some (zi2 n_0)) to96:=zbh K0 (H:=H0) zJ Tryz.func96 rfl (by kernel_rfl) (fun J=>by kernel_rfl)
abbrev R24:=za
def to24(r:R24):Ans:=⟨.agg [(zg r.frames),(zg r.major),(zg r.kernel),(zg r.room),.own 0,.own 1,.own 2],[.row 136 (.sl .sWindow) [(0,135)] [] r.cores,.row 72 .sPartition [(6,138),(7,74)] [] r.partitions,.arr 76 .sChannel r.channels]⟩
inductive L24 where | l0 (x0:Int) (x1:List (List zam)) | l4 (x0:Int) (x1:List (List zam)) (x2:List zf)
def H24:zaa:=⟨fun n=>[].any (Nat.beq n),zgf [(0,⟨fgt [1,2,3,4] 79 0,[(.box 3 4,.own 136 (.sl .sWindow))]⟩),(4,⟨fgt [1,2,3,6] 79 0,[(.box 3 5,.own 72 .sPartition)]⟩)],[],G0,(fun e=>match e with | 72=>[(6,138),(7,74)] | 136=>[(0,135)] | _=>[])⟩
def st24(c:za):L24->Nat × St | .l0 x0 x1=>(0,⟨mkE [(1,.ref 0 0),(2,.ref 1 0),(3,.ref 2 0),(4,(zg x0))] 79 0,[.cells 26 (Ty.enc .sConfig c),.cells 26 [(zg 0),(zg 0),(zg 0),(zg 0),.v (.slice none 0 0),.v (.slice none 0 0),.v (.slice none 0 0)],.cells 26 [(zg c.frames),(zg c.major),(zg c.kernel),(zg c.room),.own 3,.sl .sPartition c.partitions,.sl .sChannel c.channels],.row 136 (.sl .sWindow) [(0,135)] [] x1],GL,0,[],(fun e=>match e with | 72=>[(6,138),(7,74)] | 136=>[(0,135)] | _=>[])⟩) | .l4 x0 x1 x2=>(4,⟨mkE [(1,.ref 0 0),(2,.ref 1 0),(3,.ref 2 0),(6,(zg x0))] 79 0,[.cells 26 (Ty.enc .sConfig c),.cells 26 [(zg 0),(zg 0),(zg 0),(zg 0),.v (.slice none 0 0),.v (.slice none 0 0),.v (.slice none 0 0)],.cells 26 [(zg c.frames),(zg c.major),(zg c.kernel),(zg c.room),.own 3,.own 4,.sl .sChannel c.channels],.row 136 (.sl .sWindow) [(0,135)] [] x1,.row 72 .sPartition [(6,138),(7,74)] [] x2],GL,0,[],(fun e=>match e with | 72=>[(6,138),(7,74)] | 136=>[(0,135)] | _=>[])⟩)
def zn5(c:za):L24->Tree L24 R24 | .l0 x0 x1 =>let y1:=(([]:List zam)++zD c.cores x0.toNat);let y2:=(x1:List (List zam));.c (decide (x0<c.cores.length)) (.g (zN x0 c.cores.length) <| .g (leB ((([]:List zam).length+(zD c.cores x0.toNat:List zam).length)*24) 140737488355328) <| .g (leB ((y2.length+([y1]:List (List zam)).length)*24) 140737488355328) <| .j (.l0 (i64.wrap (x0+1)) (y2++[y1]))) (.j (.l4 0 x1 [])) | .l4 x0 x1 x2 =>let y1:=zb c.partitions x0.toNat;let y2:=(⟨y1.name,y1.entry,y1.action,y1.restarts,y1.inputs,y1.outputs,(([]:List Region)++y1.regions),(([]:List zb9)++y1.ports)⟩:zf);let y3:=zN x0 c.partitions.length;let y4:=(x2:List zf);.c (decide (x0<c.partitions.length)) (.g y3 <| .g y3 <| .g (leB ((([]:List Region).length+(y1.regions:List Region).length)*32) 140737488355328) <| .g y3 <| .g (leB ((([]:List zb9).length+(y1.ports:List zb9).length)*16) 140737488355328) <| .g (leB ((y4.length+([y2]:List zf).length)*104) 140737488355328) <| .j (.l4 (i64.wrap (x0+1)) x1 (y4++[y2]))) (.g (leB ((([]:List zI).length+(c.channels:List zI).length)*24) 140737488355328) <| .r (⟨c.frames,c.major,c.kernel,c.room,x1,x2,(([]:List zI)++c.channels)⟩:za))
def zEi(c:za):Tree L24 R24:=.j (.l0 0 [])
def zmW(c:za):L24->Option R24:=zan (zn5 c)
theorem zi5(c:za)(l:L24):zmW c l=(zn5 c l).run (zmW c):=zF _ l
def zsK(c:za):Option R24:=(zEi c).run (zmW c)
theorem zMU(c:za):Oks 24 [.agg (Ty.enc .sConfig c)] [] (zsK c) to24:=zM K0 (H:=H24) zJ Tryz.func24 rfl (by kernel_rfl) (st24 c) (fun J l=>by cases l <;> kernel_rfl) (fun J=>by kernel_rfl)
abbrev zyv:=Bool
def zPd(r:zyv):Ans:=⟨(avB r),[]⟩
inductive zwr where | l0 (x0:Int) | l4 (x0:Int)
def H128:zaa:=htt [] [(0,⟨fgt [2,3,20,21,22] 67 0,[]⟩),(4,⟨fgt [2,49,50,51] 67 0,[]⟩)] []
def zOm(c:za)(x:zf):zwr->Nat × St | .l0 x0=>(0,⟨mkE [(2,.ref 0 0),(3,.ref 1 0),(20,.sl .sRegion x.regions),(21,(zg x.regions.length)),(22,(zg x0))] 67 0,[.cells 26 (Ty.enc .sConfig c),.cells 72 (Ty.enc .sPartition x)],GL,0,[],zO⟩) | .l4 x0=>(4,⟨mkE [(2,.ref 0 0),(49,.sl .sPort x.ports),(50,(zg x.ports.length)),(51,(zg x0))] 67 0,[.cells 26 (Ty.enc .sConfig c)],GL,0,[],zO⟩)
def zjD(c:za)(x:zf):zwr->Tree zwr zyv | .l0 x0=>.c (decide (x0<x.regions.length)) (.g (zN x0 x.regions.length) <| .c (decide (((zh x.regions x0.toNat).page:Int)<0)) (.r false) (.c (decide (((zh x.regions x0.toNat).page:Int)>256)) (.r false) (.c (decide (((zh x.regions x0.toNat).pages:Int)<1)) (.r false) (.c (decide (((zh x.regions x0.toNat).pages:Int)>(i64.wrap (256-(zh x.regions x0.toNat).page)))) (.r false) (.j (.l0 (i64.wrap (x0+1)))))))) (.j (.l4 0)) | .l4 x0=>.c (decide (x0<x.ports.length)) (.g (zN x0 x.ports.length) <| .c (decide (((zbc x.ports x0.toNat).channel:Int)<0)) (.r false) (.c (decide (((zbc x.ports x0.toNat).channel:Int)>=c.channels.length)) (.r false) (.j (.l4 (i64.wrap (x0+1)))))) (.r true)
def zzF(c:za)(x:zf):Tree zwr zyv:=.c (decide ((x.regions.length:Int)>8)) (.r false) (.c (decide ((x.ports.length:Int)>8)) (.r false) (.j (.l0 0)))
def zmQ(c:za)(x:zf):zwr->Option zyv:=zan (zjD c x)
theorem zhd(c:za)(x:zf)(l:zwr):zmQ c x l=(zjD c x l).run (zmQ c x):=zF _ l
def zm8(c:za)(x:zf):Option zyv:=(zzF c x).run (zmQ c x)
theorem zHJ(c:za)(x:zf):Oks 128 [.agg (Ty.enc .sConfig c),.agg (Ty.enc .sPartition x)] [] (zm8 c x) zPd:=zM K0 (H:=H128) zJ Tryz.func128 rfl (by kernel_rfl) (zOm c x) (fun J l=>by cases l <;> kernel_rfl) (fun J=>by kernel_rfl)
abbrev zyO:=Bool
def zP1(r:zyO):Ans:=⟨(avB r),[]⟩
inductive zwS where | l0 (x0:Int) | l4 (x0:Int) (x1:Int) (x2:List Int) (x3:Int) (x4:Int)
def H231:zaa:=htt [] [(0,⟨fgt [0,1,2,7,14,15,16] 56 0,[]⟩),(4,⟨fgt [0,1,2,7,9,14,15,16,36,37,38] 56 0,[]⟩)] []
def zON(stage:Int)(words:Int)(ports:(List Int)):zwS->Nat × St | .l0 x0=>(0,⟨mkE [(0,(zg stage)),(1,(zg words)),(2,.sl (.i .i64) ports),(7,(zg (i64.wrap (3+words)))),(14,.sl (.i .i64) ports),(15,(zg ports.length)),(16,(zg x0))] 56 0,[],GL,0,[],zO⟩) | .l4 x0 x1 x2 x3 x4=>(4,⟨mkE [(0,(zg stage)),(1,(zg words)),(2,.sl (.i .i64) ports),(7,(zg (i64.wrap (3+words)))),(9,(zg x0)),(14,.sl (.i .i64) ports),(15,(zg ports.length)),(16,(zg x1)),(36,.sl (.i .i64) x2),(37,(zg x3)),(38,(zg x4))] 56 0,[],GL,0,[],zO⟩)
def zjI(stage:Int)(words:Int)(ports:(List Int)):zwS->Tree zwS zyO | .l0 x0 =>let y1:=(ports.take x0.toNat).drop 0;let y2:=inS 0 x0 ports.length;let y3:=zw ports x0.toNat;.c (decide (x0<ports.length)) (.g (zN x0 ports.length) <| .c (decide ((zw ports x0.toNat:Int)<(i64.wrap ((i64.wrap (stage+2))+words)))) (.c (decide ((stage:Int)<(i64.wrap (zw ports x0.toNat+(i64.wrap (3+words)))))) (.r false) (.g y2 <| .j (.l4 y3 x0 y1 (y1.length) 0))) (.g y2 <| .j (.l4 y3 x0 y1 (y1.length) 0))) (.r true) | .l4 x0 x1 x2 x3 x4 =>let y1:=i64.wrap (3+words);let y2:=i64.wrap (x4+1);.c (decide (x4<x3)) (.g (zN x4 x2.length) <| .c (decide (x0<(i64.wrap (zw x2 x4.toNat+y1)))) (.c (decide ((zw x2 x4.toNat:Int)<(i64.wrap (x0+y1)))) (.r false) (.j (.l4 x0 x1 x2 x3 y2))) (.j (.l4 x0 x1 x2 x3 y2))) (.j (.l0 (i64.wrap (x1+1))))
def zz0(stage:Int)(words:Int)(ports:(List Int)):Tree zwS zyO:=.j (.l0 0)
def zdM(stage:Int)(words:Int)(ports:(List Int)):zwS->Option zyO:=zan (zjI stage words ports)
theorem zhi(stage:Int)(words:Int)(ports:(List Int))(l:zwS):zdM stage words ports l=(zjI stage words ports l).run (zdM stage words ports):=zF _ l
def znn(stage:Int)(words:Int)(ports:(List Int)):Option zyO:=(zz0 stage words ports).run (zdM stage words ports)
theorem zIY(stage:Int)(words:Int)(ports:(List Int)):Oks 231 [(zg stage),(zg words),.sl (.i .i64) ports] [] (znn stage words ports) zP1:=zM K0 (H:=H231) zJ Tryz.func231 rfl (by kernel_rfl) (zON stage words ports) (fun J l=>by cases l <;> kernel_rfl) (fun J=>by kernel_rfl)
abbrev R90:=Int × Int
def to90(r:R90):Ans:=⟨.tup [(zg r.1),(zg r.2)],[]⟩
inductive L90 where | l0 (x0:Int) | l4 (x0:Int) (x1:Int) (x2:Int) (x3:Int)
def H90:zaa:=htt [] [(0,⟨fgt [1,2,10,11] 52 0,[]⟩),(4,⟨fgt [1,2,6,10,11,20,21] 52 0,[]⟩)] []
def st90(c:za)(channel:Int):L90->Nat × St | .l0 x0=>(0,⟨mkE [(1,(zg channel)),(2,.ref 0 0),(10,(zg c.partitions.length)),(11,(zg x0))] 52 0,[.cells 26 (Ty.enc .sConfig c)],GL,0,[],zO⟩) | .l4 x0 x1 x2 x3=>(4,⟨mkE [(1,(zg channel)),(2,.ref 0 0),(6,(zg x0)),(10,(zg c.partitions.length)),(11,(zg x1)),(20,(zg x2)),(21,(zg x3))] 52 0,[.cells 26 (Ty.enc .sConfig c)],GL,0,[],zO⟩)
def zob(c:za)(channel:Int):L90->Tree L90 R90 | .l0 x0=>.c (decide (x0<c.partitions.length)) (.g (zN x0 c.partitions.length) <| .j (.l4 x0 x0 (((zb c.partitions x0.toNat).ports).length) 0)) (.r (0,0)) | .l4 x0 x1 x2 x3 =>let y1:=(zb c.partitions x0.toNat).ports;let y2:=zN x0 c.partitions.length;let y3:=i64.wrap (x3+1);let y4:=zbc y1 x3.toNat;.c (decide (x3<x2)) (.g y2 <| .g (zN x3 y1.length) <| .c ((y4.channel:Int)==channel) (.g y2 <| .g (zN x3 y1.length) <| .c (y4.source) (.r (x0,x3)) (.j (.l4 x0 x1 x2 y3))) (.j (.l4 x0 x1 x2 y3))) (.j (.l0 (i64.wrap (x1+1))))
def zLV(c:za)(channel:Int):Tree L90 R90:=.j (.l0 0)
def zsF(c:za)(channel:Int):L90->Option R90:=zan (zob c channel)
theorem zjh(c:za)(channel:Int)(l:L90):zsF c channel l=(zob c channel l).run (zsF c channel):=zF _ l
def zBJ(c:za)(channel:Int):Option R90:=(zLV c channel).run (zsF c channel)
theorem zNV(c:za)(channel:Int):Oks 90 [.agg (Ty.enc .sConfig c),(zg channel)] [] (zBJ c channel) to90:=zM K0 (H:=H90) zJ Tryz.func90 rfl (by kernel_rfl) (st90 c channel) (fun J l=>by cases l <;> kernel_rfl) (fun J=>by kernel_rfl)
abbrev R74:=zb9 × Bool
def to74(r:R74):Ans:=⟨.tup [.agg [(zg r.1.channel),(avB r.1.source)],(avB r.2)],[]⟩
def zhE(d:(Option zH))(p:Int)(port:Int):Option R74:=Tree.run0 <|
 .c d.isNone
 (.r ((⟨0,false⟩:zb9),false))
 (.c (decide ((p:Int)<0))
 (.r ((⟨0,false⟩:zb9),false))
 (.g d.isSome <|
 .c (decide ((p:Int)>=((d.getD default).c.partitions).length))
 (.r ((⟨0,false⟩:zb9),false))
 (.c (decide ((port:Int)<0))
 (.r ((⟨0,false⟩:zb9),false))
 (.g d.isSome <|
 .g (zN p ((d.getD default).c.partitions).length) <|
 .c (decide ((port:Int)>=((zb ((d.getD default).c.partitions) p.toNat).ports).length))
 (.r ((⟨0,false⟩:zb9),false))
 (.g d.isSome <|
 .g (zN p ((d.getD default).c.partitions).length) <|
 .g (zN port ((zb ((d.getD default).c.partitions) p.toNat).ports).length) <|
 .r ((zbc ((zb ((d.getD default).c.partitions) p.toNat).ports) port.toNat),true))))))
theorem zNF(d:(Option zH))(p:Int)(port:Int):Oks 74 [.op .sDuctDucts d,(zg p),(zg port)] [] (zhE d p port) to74:=zL K0 (H:=H0) zJ Tryz.func74 rfl (by kernel_rfl) (fun J=>by kernel_rfl)
abbrev R79:=Int
def to79(r:R79):Ans:=⟨(zg r),[]⟩
def zqt(h_0:zI):R79:=Tree.val (L:=Empty) <|
 .c (decide ((h_0.words:Int)<1))
 (.r 0)
 (.c (decide ((h_0.words:Int)>16))
 (.r 0)
 (.c ((h_0.kind:Int)==1)
 (.r (i64.wrap (2+h_0.words)))
 (.c ((h_0.kind:Int)==2)
 (.c (decide ((h_0.depth:Int)>=1))
 (.c (decide ((h_0.depth:Int)<=8))
 (.r (i64.wrap (1+(i64.wrap (h_0.depth*(i64.wrap (1+h_0.words)))))))
 (.r 0))
 (.r 0))
 (.r 0))))
theorem zNK(h_0:zI):Oks 79 [.agg (Ty.enc .sChannel h_0)] [] (some (zqt h_0)) to79:=zbt K0 (H:=H0) zJ Tryz.func79 rfl (by kernel_rfl) rfl (fun J=>by kernel_rfl)
abbrev R13:=zB
def to13(r:R13):Ans:=⟨.agg [(zr r.regs.e0),(zr r.regs.e1),(zr r.regs.e2),(zr r.regs.e3),(zr r.regs.e4),(zr r.regs.e5),(zr r.regs.e6),(zr r.regs.e7),(zr r.regs.e8),(zr r.regs.e9),(zr r.regs.e10),(zr r.regs.e11),(zr r.regs.e12),(zr r.regs.e13),(zr r.regs.e14),(zr r.regs.e15),(zr r.pC)],[]⟩
inductive L13 where | l0 (x0:Int) (x1:Int) (x2:Int) (x3:Int) (x4:Int) (x5:Int) (x6:Int) (x7:Int) (x8:Int) (x9:Int) (x10:Int) (x11:Int) (x12:Int) (x13:Int) (x14:Int) (x15:Int) (x16:Int)
def H13:zaa:=htt [] [(0,⟨fgt [1,2,3,4] 34 0,[]⟩)] []
def st13(o:zp):L13->Nat × St | .l0 x0 x1 x2 x3 x4 x5 x6 x7 x8 x9 x10 x11 x12 x13 x14 x15 x16=>(0,⟨mkE [(1,.ref 0 0),(2,.ref 1 0),(3,.ref 2 0),(4,(zg x0))] 34 0,[.cells 49 (Ty.enc .sBulkheadlaw25Op o),.cells 57 [(zr 0),(zr 0),(zr 0),(zr 0),(zr 0),(zr 0),(zr 0),(zr 0),(zr 0),(zr 0),(zr 0),(zr 0),(zr 0),(zr 0),(zr 0),(zr 0),(zr 0)],.cells 57 [(zr x1),(zr x2),(zr x3),(zr x4),(zr x5),(zr x6),(zr x7),(zr x8),(zr x9),(zr x10),(zr x11),(zr x12),(zr x13),(zr x14),(zr x15),(zr x16),(zr (u32.wrap (i64.wrap (9+o.a))))]],GL,0,[],zO⟩)
def zzc(o:zp):L13->Tree L13 R13 | .l0 x0 x1 x2 x3 x4 x5 x6 x7 x8 x9 x10 x11 x12 x13 x14 x15 x16 =>let y1:=(List.set ([x1,x2,x3,x4,x5,x6,x7,x8,x9,x10,x11,x12,x13,x14,x15,x16]:List Int) x0.toNat (u32.wrap (i64.wrap (1000+(i64.wrap (7*x0))))));.c (decide (x0<16)) (.g (zN x0 16) <| .j (.l0 (i64.wrap (x0+1)) (zw y1 0) (zw y1 1) (zw y1 2) (zw y1 3) (zw y1 4) (zw y1 5) (zw y1 6) (zw y1 7) (zw y1 8) (zw y1 9) (zw y1 10) (zw y1 11) (zw y1 12) (zw y1 13) (zw y1 14) (zw y1 15))) (.g (zN 1 16) <| .g (zN 2 16) <| .g (zN 3 16) <| .r (⟨(⟨x1,o.r1,o.r2,o.r3,x5,x6,x7,x8,x9,x10,x11,x12,x13,x14,x15,x16⟩:zZ),(u32.wrap (i64.wrap (9+o.a)))⟩:zB))
def zEf(o:zp):Tree L13 R13:=.j (.l0 0 0 0 0 0 0 0 0 0 0 0 0 0 0 0 0 0)
def zgy(o:zp):L13->Option R13:=zan (zzc o)
theorem zsh(o:zp)(l:L13):zgy o l=(zzc o l).run (zgy o):=zF _ l
def zhD(o:zp):Option R13:=(zEf o).run (zgy o)
theorem zMO(o:zp):Oks 13 [.agg (Ty.enc .sBulkheadlaw25Op o)] [] (zhD o) to13:=zM K0 (H:=H13) zJ Tryz.func13 rfl (by kernel_rfl) (st13 o) (fun J l=>by cases l <;> kernel_rfl) (fun J=>by kernel_rfl)
abbrev zyq:=Bool
def zOW(r:zyq):Ans:=⟨(avB r),[]⟩
inductive zwm where | l0 (x0:Int)
def H112:zaa:=htt [] [(0,⟨fgt [1,2,10,11] 40 0,[]⟩)] []
def zOh(p:zf)(t:Int):zwm->Nat × St | .l0 x0=>(0,⟨mkE [(1,(zg t)),(2,.ref 0 0),(10,(zg p.regions.length)),(11,(zg x0))] 40 0,[.cells 72 (Ty.enc .sPartition p)],GL,0,[],zO⟩)
def zpH(p:zf)(t:Int):zwm->Tree zwm zyq | .l0 x0 =>let y1:=zh p.regions x0.toNat;let y2:=i64.wrap (x0+1);let y3:=zN x0 p.regions.length;.c (decide (x0<p.regions.length)) (.g y3 <| .g y3 <| .c (decide (((bop .quo .i64 (y1.page) 16):Int)<=t)) (.c (decide ((t:Int)<=(bop .quo .i64 (i64.wrap ((i64.wrap (y1.page+y1.pages))-1)) 16))) (.r true) (.j (.l0 y2))) (.j (.l0 y2))) (.r false)
def zGM(p:zf)(t:Int):Tree zwm zyq:=.j (.l0 0)
def zmO(p:zf)(t:Int):zwm->Option zyq:=zan (zpH p t)
theorem zoW(p:zf)(t:Int)(l:zwm):zmO p t l=(zpH p t l).run (zmO p t):=zF _ l
def zkf(p:zf)(t:Int):Option zyq:=(zGM p t).run (zmO p t)
theorem zHC(p:zf)(t:Int):Oks 112 [.agg (Ty.enc .sPartition p),(zg t)] [] (zkf p t) zOW:=zM K0 (H:=H112) zJ Tryz.func112 rfl (by kernel_rfl) (zOh p t) (fun J l=>by cases l <;> kernel_rfl) (fun J=>by kernel_rfl)
abbrev zyB:=Int
def zPo(r:zyB):Ans:=⟨(zg r),[]⟩
inductive zwx where | l0 (x0:Int)
def H145:zaa:=htt [] [(0,⟨fgt [1,2,19,20,21] 38 0,[]⟩)] []
def zOs(d:(Option zH))(p:Int)(port:Int)(channel:Int):zwx->Nat × St | .l0 x0=>(0,⟨mkE [(1,(zg p)),(2,(zg port)),(19,.sl .sDestPlace ((zG ((d.getD default).lay.channels) channel.toNat).dests)),(20,(zg (((zG ((d.getD default).lay.channels) channel.toNat).dests).length))),(21,(zg x0))] 38 0,[],GL,0,[],zO⟩)
def ztp(d:(Option zH))(p:Int)(port:Int)(channel:Int):zwx->Tree zwx zyB | .l0 x0 =>let y1:=(zG ((d.getD default).lay.channels) channel.toNat).dests;let y2:=zcC y1 x0.toNat;let y3:=i64.wrap (x0+1);.c (decide (x0<y1.length)) (.g (zN x0 y1.length) <| .c ((y2.partition:Int)==p) (.c ((y2.port:Int)==port) (.r (y2.at_)) (.j (.l0 y3))) (.j (.l0 y3))) (.r (-1))
def zzI(d:(Option zH))(p:Int)(port:Int)(channel:Int):Tree zwx zyB:=.g d.isSome <| .g (zN channel ((d.getD default).lay.channels).length) <| .j (.l0 0)
def zh7(d:(Option zH))(p:Int)(port:Int)(channel:Int):zwx->Option zyB:=zan (ztp d p port channel)
theorem zxY(d:(Option zH))(p:Int)(port:Int)(channel:Int)(l:zwx):zh7 d p port channel l=(ztp d p port channel l).run (zh7 d p port channel):=zF _ l
def zgF(d:(Option zH))(p:Int)(port:Int)(channel:Int):Option zyB:=(zzI d p port channel).run (zh7 d p port channel)
theorem zHW(d:(Option zH))(p:Int)(port:Int)(channel:Int):Oks 145 [.op .sDuctDucts d,(zg p),(zg port),(zg channel)] [] (zgF d p port channel) zPo:=zM K0 (H:=H145) zJ Tryz.func145 rfl (by kernel_rfl) (zOs d p port channel) (fun J l=>by cases l <;> kernel_rfl) (fun J=>by kernel_rfl)
abbrev R36:=Int
def to36(r:R36):Ans:=⟨(zg r),[]⟩
def zpf(s_0:(Option zq))(p:Int)(call:Int):Option R36:=Tree.run0 <|
 .c (decide ((p:Int)<0))
 (.r 251)
 (.g s_0.isSome <|
 .c (decide ((p:Int)>=((s_0.getD default).lay.partitions).length))
 (.r 251)
 (.c (decide ((call:Int)<0))
 (.r 251)
 (.c (decide ((call:Int)>=8))
 (.r 251)
 (.r 0))))
theorem zM6(s_0:(Option zq))(p:Int)(call:Int):Oks 36 [.op .sCallsCalls s_0,(zg p),(zg call)] [] (zpf s_0 p call) to36:=zL K0 (H:=H0) zJ Tryz.func36 rfl (by kernel_rfl) (fun J=>by kernel_rfl)
abbrev zyP:=Bool
def zP2(r:zyP):Ans:=⟨(avB r),[]⟩
inductive zwT where | l0 (x0:Int)
def H232:zaa:=htt [] [(0,⟨fgt [5,6,7] 14 0,[]⟩)] []
def zOO(l_0:(List Int)):zwT->Nat × St | .l0 x0=>(0,⟨mkE [(5,.sl (.i .u32) l_0),(6,(zg l_0.length)),(7,(zg x0))] 14 0,[],GL,0,[],zO⟩)
def zpU(l_0:(List Int)):zwT->Tree zwT zyP | .l0 x0=>.c (decide (x0<l_0.length)) (.g (zN x0 l_0.length) <| .c (!((zw l_0 x0.toNat:Int)==0)) (.r false) (.j (.l0 (i64.wrap (x0+1))))) (.r true)
def zGT(l_0:(List Int)):Tree zwT zyP:=.j (.l0 0)
def zqz(l_0:(List Int)):zwT->Option zyP:=zan (zpU l_0)
theorem zo9(l_0:(List Int))(l:zwT):zqz l_0 l=(zpU l_0 l).run (zqz l_0):=zF _ l
def zuj(l_0:(List Int)):Option zyP:=(zGT l_0).run (zqz l_0)
theorem zIZ(l_0:(List Int)):Oks 232 [.sl (.i .u32) l_0] [] (zuj l_0) zP2:=zM K0 (H:=H232) zJ Tryz.func232 rfl (by kernel_rfl) (zOO l_0) (fun J l=>by cases l <;> kernel_rfl) (fun J=>by kernel_rfl)
abbrev R140:=Bool
def zPk(r:R140):Ans:=⟨(avB r),[]⟩
def zoV(a:Int)(many:Int)(b:Int)(others:Int):R140:=Tree.val (L:=Empty) <|
 .c (decide ((a:Int)<(i64.wrap (b+others))))
 (.r (decide ((b:Int)<(i64.wrap (a+many)))))
 (.r false)
theorem zHR(a:Int)(many:Int)(b:Int)(others:Int):Oks 140 [(zg a),(zg many),(zg b),(zg others)] [] (some (zoV a many b others)) zPk:=zbt K0 (H:=H0) zJ Tryz.func140 rfl (by kernel_rfl) rfl (fun J=>by kernel_rfl)
abbrev R10:=Int
def to10(r:R10):Ans:=⟨(zg r),[]⟩
inductive L10 where | l7 (x0:Int)
def H10:zaa:=htt [3] [(7,⟨fgt [0,1] 13 0,[]⟩)] []
def st10(c:Int)(n_1:Int):L10->Nat × St | .l7 x0=>(7,⟨mkE [(0,(zg x0)),(1,(zg n_1))] 13 0,[],GL,0,[],zO⟩)
def zza(c:Int)(n_1:Int):L10->Tree L10 R10 | .l7 x0=>.c (decide ((n_1:Int)=0)) (.n) (.r (dv .rem .i64 x0 n_1))
def zEd(c:Int)(n_1:Int):Tree L10 R10:=.c (decide ((c:Int)<0)) (.j (.l7 (uop .neg .i64 (i64.wrap (c+1))))) (.j (.l7 c))
def zvB(c:Int)(n_1:Int):L10->Option R10:=zan (zza c n_1)
theorem zBD(c:Int)(n_1:Int)(l:L10):zvB c n_1 l=(zza c n_1 l).run (zvB c n_1):=zF _ l
def zjl(c:Int)(n_1:Int):Option R10:=(zEd c n_1).run (zvB c n_1)
theorem zML(c:Int)(n_1:Int):Oks 10 [(zg c),(zg n_1)] [] (zjl c n_1) to10:=zM K0 (H:=H10) zJ Tryz.func10 rfl (by kernel_rfl) (st10 c n_1) (fun J l=>by cases l <;> kernel_rfl) (fun J=>by kernel_rfl)
abbrev zFY:=Int × Int
def zFh(r:zFY):Ans:=⟨(zg r.1),[.cells 3 [(zg r.2)]]⟩
def zb8(n:Int)(here:Int):zFY:=(here,(i64.wrap (here+n)))
theorem zHK(n:Int)(here:Int):Oks 129 [(zg n),.ref 0 0] [.cells 3 [(zg here)]] (some (zb8 n here)) zFh:=zbh K0 (H:=H0) zJ Tryz.func129 rfl (by kernel_rfl) (fun J=>by kernel_rfl)
abbrev R87:=zaY
def to87(r:R87):Ans:=⟨.agg [(zg r.first),(zg r.second)],[]⟩
def zlp(first:Int):R87:=(⟨first,(-1)⟩:zaY)
theorem zNS(first:Int):Oks 87 [(zg first)] [] (some (zlp first)) to87:=zbh K0 (H:=H0) zJ Tryz.func87 rfl (by kernel_rfl) (fun J=>by kernel_rfl)
abbrev zyo:=Bool
def zOS(r:zyo):Ans:=⟨(avB r),[]⟩
inductive zwk where | l0 (x0:Int) | l4 (x0:Int)
def H108:zaa:=htt [] [(0,⟨fgt [1,2,20,21] 75 0,[]⟩),(4,⟨fgt [1,2,53,54] 75 0,[]⟩)] []
def zOf(p:zf)(channels:Int):zwk->Nat × St | .l0 x0=>(0,⟨mkE [(1,(zg channels)),(2,.ref 0 0),(20,(zg p.regions.length)),(21,(zg x0))] 75 0,[.cells 72 (Ty.enc .sPartition p)],GL,0,[],zO⟩) | .l4 x0=>(4,⟨mkE [(1,(zg channels)),(2,.ref 0 0),(53,(zg p.ports.length)),(54,(zg x0))] 75 0,[.cells 72 (Ty.enc .sPartition p)],GL,0,[],zO⟩)
def zjB(p:zf)(channels:Int):zwk->Tree zwk zyo | .l0 x0 =>let y1:=zh p.regions x0.toNat;.c (decide (x0<p.regions.length)) (.g (zN x0 p.regions.length) <| .c (decide ((y1.page:Int)<0)) (.r false) (.c (decide ((y1.page:Int)>256)) (.r false) (.c (decide ((y1.pages:Int)<1)) (.r false) (.c (decide ((y1.pages:Int)>(i64.wrap (256-y1.page)))) (.r false) (.j (.l0 (i64.wrap (x0+1)))))))) (.j (.l4 0)) | .l4 x0 =>let y1:=((zbc p.ports x0.toNat).channel:Int);let y2:=zN x0 p.ports.length;.c (decide (x0<p.ports.length)) (.g y2 <| .c (decide (y1<0)) (.r false) (.g y2 <| .c (decide (y1>=channels)) (.r false) (.j (.l4 (i64.wrap (x0+1)))))) (.r true)
def zzA(p:zf)(channels:Int):Tree zwk zyo:=.c (decide ((p.regions.length:Int)>8)) (.r false) (.c (decide ((p.ports.length:Int)>8)) (.r false) (.j (.l0 0)))
def zmN(p:zf)(channels:Int):zwk->Option zyo:=zan (zjB p channels)
theorem zhb(p:zf)(channels:Int)(l:zwk):zmN p channels l=(zjB p channels l).run (zmN p channels):=zF _ l
def zm7(p:zf)(channels:Int):Option zyo:=(zzA p channels).run (zmN p channels)
theorem zHy(p:zf)(channels:Int):Oks 108 [.agg (Ty.enc .sPartition p),(zg channels)] [] (zm7 p channels) zOS:=zM K0 (H:=H108) zJ Tryz.func108 rfl (by kernel_rfl) (zOf p channels) (fun J l=>by cases l <;> kernel_rfl) (fun J=>by kernel_rfl)
abbrev R91:=Bool
def to91(r:R91):Ans:=⟨(avB r),[]⟩
inductive L91 where | l0 (x0:Int) | l4 (x0:Int) (x1:Int) (x2:Int) (x3:Int) (x4:List Int)
def H91:zaa:=htt [] [(0,⟨fgt [1,2,5] 75 0,[]⟩),(4,⟨fgt [1,2,5,6,7] 75 0,[]⟩)] []
def st91(c:za)(feeds:(List z6)):L91->Nat × St | .l0 x0=>(0,⟨mkE [(1,.sl .sFeed feeds),(2,.ref 0 0),(5,(zg x0))] 75 0,[.cells 26 (Ty.enc .sConfig c)],GL,0,[],zO⟩) | .l4 x0 x1 x2 x3 x4=>(4,⟨mkE [(1,.sl .sFeed feeds),(2,.ref 0 0),(5,(zg x0)),(6,.ref 1 0),(7,(zg x1))] 75 0,[.cells 26 (Ty.enc .sConfig c),.cells 85 [(zg x2),(zg x3),.sl (.i .u32) x4]],GL,0,[],zO⟩)
def zoc(c:za)(feeds:(List z6)):L91->Tree L91 R91 | .l0 x0 =>let y1:=zA feeds x0.toNat;let y2:=y1.partition;let y3:=(y1.partition:Int);.c (decide (x0<feeds.length)) (.g (zN x0 feeds.length) <| .c (decide (y3<0)) (.r false) (.c (decide (y3>=c.partitions.length)) (.r false) (.c (decide ((y1.epoch:Int)<0)) (.r false) (.c (decide ((y1.epoch:Int)>=1073741824)) (.r false) (.g (zN y2 c.partitions.length) <| .c (decide (((y1.words).length:Int)>(zb c.partitions (y2.toNat)).inputs)) (.r false) (.j (.l4 x0 0 y2 (y1.epoch) (y1.words)))))))) (.r true) | .l4 x0 x1 x2 x3 x4 =>let y1:=i64.wrap (x1+1);let y2:=zA feeds x1.toNat;let y3:=zN x1 feeds.length;.c (decide (x1<x0)) (.g y3 <| .c ((y2.partition:Int)==x2) (.g y3 <| .c ((y2.epoch:Int)==x3) (.r false) (.j (.l4 x0 y1 x2 x3 x4))) (.j (.l4 x0 y1 x2 x3 x4))) (.j (.l0 (i64.wrap (x0+1))))
def zEM(c:za)(feeds:(List z6)):Tree L91 R91:=.j (.l0 0)
def zji(c:za)(feeds:(List z6)):L91->Option R91:=zan (zoc c feeds)
theorem zjj(c:za)(feeds:(List z6))(l:L91):zji c feeds l=(zoc c feeds l).run (zji c feeds):=zF _ l
def zvY(c:za)(feeds:(List z6)):Option R91:=(zEM c feeds).run (zji c feeds)
theorem zNW(c:za)(feeds:(List z6)):Oks 91 [.agg (Ty.enc .sConfig c),.sl .sFeed feeds] [] (zvY c feeds) to91:=zM K0 (H:=H91) zJ Tryz.func91 rfl (by kernel_rfl) (st91 c feeds) (fun J l=>by cases l <;> kernel_rfl) (fun J=>by kernel_rfl)
abbrev zyz:=Int × Int
def zPi(r:zyz):Ans:=⟨.tup [(zg r.1),(zg r.2)],[]⟩
inductive zwv where | l0 (x0:Int) (x1:Int) (x2:Int) | l4 (x0:Int) (x1:Int) (x2:Int) (x3:Int) | l25 (x0:Int) (x1:Int) (x2:Int) (x3:Int) (x4:Int) (x5:Bool) | l17 (x0:Int) (x1:Int) (x2:Int) (x3:Int)
def H138:zaa:=htt [8,12] [(0,⟨fgt [1,2,6,7,8] 61 0,[]⟩),(4,⟨fgt [1,2,6,7,8,9] 61 0,[]⟩),(17,⟨fgt [1,2,6,7,8,9] 61 0,[]⟩),(25,⟨fgt [1,2,6,7,8,9,10] 61 0,[]⟩)] []
def zOq(c:za)(h_1:Int):zwv->Nat × St | .l0 x0 x1 x2=>(0,⟨mkE [(1,(zg h_1)),(2,.ref 0 0),(6,(zg x0)),(7,(zg x1)),(8,(zg x2))] 61 0,[.cells 26 (Ty.enc .sConfig c)],GL,0,[],zO⟩) | .l4 x0 x1 x2 x3=>(4,⟨mkE [(1,(zg h_1)),(2,.ref 0 0),(6,(zg x0)),(7,(zg x1)),(8,(zg x2)),(9,(zg x3))] 61 0,[.cells 26 (Ty.enc .sConfig c)],GL,0,[],zO⟩) | .l25 x0 x1 x2 x3 x4 x5=>(25,⟨mkE [(1,(zg h_1)),(2,.ref 0 0),(6,(zg x0)),(7,(zg x1)),(8,(zg x2)),(9,(zg x3)),(10,.ref 1 0)] 61 0,[.cells 26 (Ty.enc .sConfig c),.cells 74 [(zg x4),(avB x5)]],GL,0,[],zO⟩) | .l17 x0 x1 x2 x3=>(17,⟨mkE [(1,(zg h_1)),(2,.ref 0 0),(6,(zg x0)),(7,(zg x1)),(8,(zg x2)),(9,(zg x3))] 61 0,[.cells 26 (Ty.enc .sConfig c)],GL,0,[],zO⟩)
def zf2(c:za)(h_1:Int):zwv->Tree zwv zyz | .l0 x0 x1 x2=>.c (decide (x2<c.partitions.length)) (.j (.l4 x0 x1 x2 0)) (.r (x0,x1)) | .l4 x0 x1 x2 x3 =>let y2:=(zb c.partitions x2.toNat).ports;let y1:=zbc y2 x3.toNat;let y3:=y1.source;let y4:=zN x2 c.partitions.length;let y5:=y1.channel;.g y4 <| .c (decide (x3<y2.length)) (.g y4 <| .g (zN x3 y2.length) <| .c ((y1.channel:Int)==h_1) (.c y3 (.j (.l25 (i64.wrap (x0+1)) x1 x2 x3 y5 y3)) (.j (.l25 x0 x1 x2 x3 y5 y3))) (.j (.l25 x0 x1 x2 x3 y5 y3))) (.j (.l0 x0 x1 (i64.wrap (x2+1)))) | .l25 x0 x1 x2 x3 x4 x5=>.c (x4==h_1) (.c (!x5) (.j (.l17 x0 (i64.wrap (x1+1)) x2 x3)) (.j (.l17 x0 x1 x2 x3))) (.j (.l17 x0 x1 x2 x3)) | .l17 x0 x1 x2 x3=>.j (.l4 x0 x1 x2 (i64.wrap (x3+1)))
def zGO(c:za)(h_1:Int):Tree zwv zyz:=.j (.l0 0 0 0)
def zcz(c:za)(h_1:Int):zwv->Option zyz:=zan (zf2 c h_1)
theorem zed(c:za)(h_1:Int)(l:zwv):zcz c h_1 l=(zf2 c h_1 l).run (zcz c h_1):=zF _ l
def zew(c:za)(h_1:Int):Option zyz:=(zGO c h_1).run (zcz c h_1)
theorem zHP(c:za)(h_1:Int):Oks 138 [.agg (Ty.enc .sConfig c),(zg h_1)] [] (zew c h_1) zPi:=zM K0 (H:=H138) zJ Tryz.func138 rfl (by kernel_rfl) (zOq c h_1) (fun J l=>by cases l <;> kernel_rfl) (fun J=>by kernel_rfl)
abbrev zyK:=Bool
def zPF(r:zyK):Ans:=⟨(avB r),[]⟩
inductive zwH where | l0 (x0:Int)
def H166:zaa:=htt [] [(0,⟨fgt [0,24,25] 50 0,[]⟩)] []
def zOC(s_0:ByteArray):zwH->Nat × St | .l0 x0=>(0,⟨mkE [(0,.v (.string s_0)),(24,(zg s_0.size)),(25,(zg x0))] 50 0,[],GL,0,[],zO⟩)
def zpQ(s_0:ByteArray):zwH->Tree zwH zyK | .l0 x0 =>let y1:=((zcw s_0 x0.toNat):Int);let y2:=i64.wrap (x0+1);let y3:=!(y1==45);.c (decide (x0<s_0.size)) (.g (zN x0 s_0.size) <| .c (decide (y1<97)) (.c (decide (y1<48)) (.c y3 (.r false) (.j (.l0 y2))) (.c (decide (y1>57)) (.c y3 (.r false) (.j (.l0 y2))) (.j (.l0 y2)))) (.c (decide (y1>122)) (.c (decide (y1<48)) (.c y3 (.r false) (.j (.l0 y2))) (.c (decide (y1>57)) (.c y3 (.r false) (.j (.l0 y2))) (.j (.l0 y2)))) (.j (.l0 y2)))) (.r true)
def zzP(s_0:ByteArray):Tree zwH zyK:=.c (decide ((s_0.size:Int)<1)) (.r false) (.c (decide ((s_0.size:Int)>16)) (.r false) (.g (zN 0 s_0.size) <| .c (decide (((zcw s_0 0):Int)<97)) (.r false) (.g (zN 0 s_0.size) <| .c (decide (((zcw s_0 0):Int)>122)) (.r false) (.j (.l0 0)))))
def zmU(s_0:ByteArray):zwH->Option zyK:=zan (zpQ s_0)
theorem zo5(s_0:ByteArray)(l:zwH):zmU s_0 l=(zpQ s_0 l).run (zmU s_0):=zF _ l
def zqR(s_0:ByteArray):Option zyK:=(zzP s_0).run (zmU s_0)
theorem zIh(s_0:ByteArray):Oks 166 [.v (.string s_0)] [] (zqR s_0) zPF:=zM K0 (H:=H166) zJ Tryz.func166 rfl (by kernel_rfl) (zOC s_0) (fun J l=>by cases l <;> kernel_rfl) (fun J=>by kernel_rfl)
abbrev zyQ:=(List Int) × Bool
def zP3(r:zyQ):Ans:=⟨.tup [.own 0,(avB r.2)],[.arr 46 (.i .u32) r.1]⟩
inductive zwU where | l0 (x0:Int)
def H233:zaa:=htt [] [(0,⟨fgt [6,7,30,31,32] 45 0,[]⟩)] [(.slot 0,.own 46 (.i .u32))]
def zOP(l_0:(List Int))(head:Int):zwU->Nat × St | .l0 x0=>(0,⟨mkE [(6,(zg (i64.wrap (zw l_0 ((i64.wrap (head-1)).toNat))))),(7,.sl (.i .u32) ((l_0.take (l_0.length:Int).toNat).drop head.toNat)),(30,.sl (.i .u32) ((((l_0.take (l_0.length:Int).toNat).drop head.toNat).take (((l_0.take (l_0.length:Int).toNat).drop head.toNat).length:Int).toNat).drop (i64.wrap (zw l_0 ((i64.wrap (head-1)).toNat))).toNat)),(31,(zg (((((l_0.take (l_0.length:Int).toNat).drop head.toNat).take (((l_0.take (l_0.length:Int).toNat).drop head.toNat).length:Int).toNat).drop (i64.wrap (zw l_0 ((i64.wrap (head-1)).toNat))).toNat).length))),(32,(zg x0))] 45 0,[],GL,0,[],zO⟩)
def zpV(l_0:(List Int))(head:Int):zwU->Tree zwU zyQ | .l0 x0 =>let y1:=i64.wrap (zw l_0 ((i64.wrap (head-1)).toNat));let y2:=((l_0.take (l_0.length:Int).toNat).drop head.toNat);let y3:=((y2.take (y2.length:Int).toNat).drop y1.toNat);let y4:=(List.replicate y1.toNat (0:Int));.c (decide (x0<y3.length)) (.g (zN x0 y3.length) <| .c (!((zw y3 x0.toNat:Int)==0)) (.r ([],false)) (.j (.l0 (i64.wrap (x0+1))))) (.g (decide ((y1:Int)=y1)&&decide (0<=y1)&&leB (y1.toNat*4) 140737488355328) <| .r ((zcA y4 0 (List.take (y4.length) (y2:List Int))),true))
def zz1(l_0:(List Int))(head:Int):Tree zwU zyQ:=.g (zN (i64.wrap (head-1)) l_0.length) <| .g (inS head l_0.length l_0.length) <| .c (decide (((i64.wrap (zw l_0 ((i64.wrap (head-1)).toNat))):Int)<1)) (.r ([],false)) (.c (decide (((i64.wrap (zw l_0 ((i64.wrap (head-1)).toNat))):Int)>((l_0.take (l_0.length:Int).toNat).drop head.toNat).length)) (.r ([],false)) (.g (inS (i64.wrap (zw l_0 ((i64.wrap (head-1)).toNat))) (((l_0.take (l_0.length:Int).toNat).drop head.toNat).length) ((l_0.take (l_0.length:Int).toNat).drop head.toNat).length) <| .j (.l0 0)))
def zqA(l_0:(List Int))(head:Int):zwU->Option zyQ:=zan (zpV l_0 head)
theorem zpa(l_0:(List Int))(head:Int)(l:zwU):zqA l_0 head l=(zpV l_0 head l).run (zqA l_0 head):=zF _ l
def zno(l_0:(List Int))(head:Int):Option zyQ:=(zz1 l_0 head).run (zqA l_0 head)
theorem zI0(l_0:(List Int))(head:Int):Oks 233 [.sl (.i .u32) l_0,(zg head)] [] (zno l_0 head) zP3:=zM K0 (H:=H233) zJ Tryz.func233 rfl (by kernel_rfl) (zOP l_0 head) (fun J l=>by cases l <;> kernel_rfl) (fun J=>by kernel_rfl)
abbrev R73:=Int
def to73(r:R73):Ans:=⟨(zg r),[]⟩
inductive L73 where | l0 (x0:Int)
def H73:zaa:=htt [] [(0,⟨fgt [1,2,3,7] 46 0,[]⟩)] []
def st73(c:za)(p:Int)(at_2:Int):L73->Nat × St | .l0 x0=>(0,⟨mkE [(1,(zg p)),(2,(zg at_2)),(3,.ref 0 0),(7,(zg x0))] 46 0,[.cells 26 (Ty.enc .sConfig c)],GL,0,[],zO⟩)
def zuO(c:za)(p:Int)(at_2:Int):L73->Tree L73 R73 | .l0 x0 =>let y1:=(zb c.partitions p.toNat).regions;let y2:=zh y1 x0.toNat;let y3:=((bop .quo .i64 at_2 16):Int);let y4:=zN p c.partitions.length;let y5:=i64.wrap (x0+1);.g y4 <| .c (decide (x0<y1.length)) (.g y4 <| .g (zN x0 y1.length) <| .c (decide (y3>=y2.frame)) (.c (decide (y3<(i64.wrap (y2.frame+y2.pages)))) (.r (y2.rights)) (.j (.l0 y5))) (.j (.l0 y5))) (.r 0)
def zEH(c:za)(p:Int)(at_2:Int):Tree L73 R73:=.j (.l0 0)
def zvH(c:za)(p:Int)(at_2:Int):L73->Option R73:=zan (zuO c p at_2)
theorem zsC(c:za)(p:Int)(at_2:Int)(l:L73):zvH c p at_2 l=(zuO c p at_2 l).run (zvH c p at_2):=zF _ l
def zvT(c:za)(p:Int)(at_2:Int):Option R73:=(zEH c p at_2).run (zvH c p at_2)
theorem zNE(c:za)(p:Int)(at_2:Int):Oks 73 [.agg (Ty.enc .sConfig c),(zg p),(zg at_2)] [] (zvT c p at_2) to73:=zM K0 (H:=H73) zJ Tryz.func73 rfl (by kernel_rfl) (st73 c p at_2) (fun J l=>by cases l <;> kernel_rfl) (fun J=>by kernel_rfl)
abbrev zyA:=Bool
def zPj(r:zyA):Ans:=⟨(avB r),[]⟩
inductive zww where | l0 (x0:Int) | l4 (x0:Int) (x1:Int)
def H139:zaa:=htt [] [(0,⟨fgt [1,2,3,7] 39 0,[]⟩),(4,⟨fgt [1,2,3,7,8] 39 0,[]⟩)] []
def zOr(c:za)(core:Int)(p:Int):zww->Nat × St | .l0 x0=>(0,⟨mkE [(1,(zg core)),(2,(zg p)),(3,.ref 0 0),(7,(zg x0))] 39 0,[.cells 26 (Ty.enc .sConfig c)],GL,0,[],zO⟩) | .l4 x0 x1=>(4,⟨mkE [(1,(zg core)),(2,(zg p)),(3,.ref 0 0),(7,(zg x0)),(8,(zg x1))] 39 0,[.cells 26 (Ty.enc .sConfig c)],GL,0,[],zO⟩)
def zjE(c:za)(core:Int)(p:Int):zww->Tree zww zyA | .l0 x0=>.c (decide (x0<core)) (.j (.l4 x0 0)) (.r false) | .l4 x0 x1 =>let y1:=zD c.cores x0.toNat;let y2:=i64.wrap (x1+1);let y3:=zN x0 c.cores.length;.g y3 <| .c (decide (x1<y1.length)) (.c (!((p:Int)==(-1))) (.g y3 <| .g (zN x1 y1.length) <| .c (((zbz y1 x1.toNat).partition:Int)==p) (.r true) (.j (.l4 x0 y2))) (.j (.l4 x0 y2))) (.j (.l0 (i64.wrap (x0+1))))
def zGP(c:za)(core:Int)(p:Int):Tree zww zyA:=.j (.l0 0)
def zfK(c:za)(core:Int)(p:Int):zww->Option zyA:=zan (zjE c core p)
theorem zhe(c:za)(core:Int)(p:Int)(l:zww):zfK c core p l=(zjE c core p l).run (zfK c core p):=zF _ l
def zqM(c:za)(core:Int)(p:Int):Option zyA:=(zGP c core p).run (zfK c core p)
theorem zHQ(c:za)(core:Int)(p:Int):Oks 139 [.agg (Ty.enc .sConfig c),(zg core),(zg p)] [] (zqM c core p) zPj:=zM K0 (H:=H139) zJ Tryz.func139 rfl (by kernel_rfl) (zOr c core p) (fun J l=>by cases l <;> kernel_rfl) (fun J=>by kernel_rfl)
abbrev zyI:=Bool
def zPy(r:zyI):Ans:=⟨(avB r),[]⟩
inductive zwE where | l0 (x0:Int) | l4 (x0:Int) (x1:List zam) (x2:Int) (x3:Int)
def H156:zaa:=htt [] [(0,⟨fgt [2,14,15,16] 36 0,[]⟩),(4,⟨fgt [2,14,15,16,20,21,22] 36 0,[]⟩)] []
def zOz(c:za)(k:Int)(p:Int):zwE->Nat × St | .l0 x0=>(0,⟨mkE [(2,(zg p)),(14,.sl (.sl .sWindow) ((c.cores.take k.toNat).drop 0)),(15,(zg (((c.cores.take k.toNat).drop 0).length))),(16,(zg x0))] 36 0,[],GL,0,[],zO⟩) | .l4 x0 x1 x2 x3=>(4,⟨mkE [(2,(zg p)),(14,.sl (.sl .sWindow) ((c.cores.take k.toNat).drop 0)),(15,(zg (((c.cores.take k.toNat).drop 0).length))),(16,(zg x0)),(20,.sl .sWindow x1),(21,(zg x2)),(22,(zg x3))] 36 0,[],GL,0,[],zO⟩)
def zjF(c:za)(k:Int)(p:Int):zwE->Tree zwE zyI | .l0 x0 =>let y1:=(c.cores.take k.toNat).drop 0;let y2:=zD y1 x0.toNat;.c (decide (x0<y1.length)) (.g (zN x0 y1.length) <| .j (.l4 x0 y2 (y2.length) 0)) (.r false) | .l4 x0 x1 x2 x3 =>let y1:=i64.wrap (x3+1);.c (decide (x3<x2)) (.g (zN x3 x1.length) <| .c (decide ((p:Int)>=0)) (.c (((zbz x1 x3.toNat).partition:Int)==p) (.r true) (.j (.l4 x0 x1 x2 y1))) (.j (.l4 x0 x1 x2 y1))) (.j (.l0 (i64.wrap (x0+1))))
def zzM(c:za)(k:Int)(p:Int):Tree zwE zyI:=.g (inS 0 k c.cores.length) <| .j (.l0 0)
def zgz(c:za)(k:Int)(p:Int):zwE->Option zyI:=zan (zjF c k p)
theorem zhf(c:za)(k:Int)(p:Int)(l:zwE):zgz c k p l=(zjF c k p l).run (zgz c k p):=zF _ l
def znd(c:za)(k:Int)(p:Int):Option zyI:=(zzM c k p).run (zgz c k p)
theorem zH7(c:za)(k:Int)(p:Int):Oks 156 [.agg (Ty.enc .sConfig c),(zg k),(zg p)] [] (znd c k p) zPy:=zM K0 (H:=H156) zJ Tryz.func156 rfl (by kernel_rfl) (zOz c k p) (fun J l=>by cases l <;> kernel_rfl) (fun J=>by kernel_rfl)
abbrev R43:=Int
def to43(r:R43):Ans:=⟨(zg r),[]⟩
def zfo(m:(Option ze))(at_1:Int)(n_2:Int):Option R43:=Tree.run0 <|
 .c m.isNone
 (.r 3)
 (.c (decide ((at_1:Int)<0))
 (.r 51)
 (.c (decide ((n_2:Int)<0))
 (.r 51)
 (.g m.isSome <|
 .c (decide ((at_1:Int)>((m.getD default).words).length))
 (.r 51)
 (.g m.isSome <|
 .c (decide ((n_2:Int)>(i64.wrap (((m.getD default).words).length-at_1))))
 (.r 51)
 (.r 0)))))
theorem zNa(m:(Option ze))(at_1:Int)(n_2:Int):Oks 43 [.op .sMemMemory m,(zg at_1),(zg n_2)] [] (zfo m at_1 n_2) to43:=zL K0 (H:=H0) zJ Tryz.func43 rfl (by kernel_rfl) (fun J=>by kernel_rfl)
abbrev R105:=Int × Int
def zOR(r:R105):Ans:=⟨.tup [(zg r.1),(zr r.2)],[]⟩
def zqB(d:(Option zT))(p:Int)(epoch:Int)(index:Int):Option R105:=Tree.run0 <|
 .c d.isNone
 (.r (0,0))
 (.g d.isSome <|
 .b (zen (fun x:zR=>some (((p:Int)==x.partition)&&(((epoch:Int)==x.epoch)&&true))) ((d.getD default).feeds)) fun r1=>
 .c (decide (((IntKind.u64.wrap index):Int)>=(IntKind.u64.wrap ((r1.getD []).length))))
 (.r (7,0))
 (.g (zN index (r1.getD []).length) <|
 .r (0,zw (r1.getD []) index.toNat)))
theorem zHv(d:(Option zT))(p:Int)(epoch:Int)(index:Int):Oks 105 [.op .sDeviceDevices d,(zg p),(zg epoch),(zr index)] [] (zqB d p epoch index) zOR:=zL K0 (H:=H0) zJ Tryz.func105 rfl (by kernel_rfl) (fun J=>by kernel_rfl)
abbrev R225:=Int
def zPW(r:R225):Ans:=⟨(zg r),[]⟩
def zgx(m:(Option ze))(words:Int):R225:=Tree.val (L:=Empty) <|
 .c m.isNone
 (.r 3)
 (.c (decide ((words:Int)<1))
 (.r 1)
 (.c (decide ((words:Int)>16))
 (.r 1)
 (.r 0)))
theorem zIS(m:(Option ze))(words:Int):Oks 225 [.op .sMemMemory m,(zg words)] [] (some (zgx m words)) zPW:=zbt K0 (H:=H0) zJ Tryz.func225 rfl (by kernel_rfl) rfl (fun J=>by kernel_rfl)
abbrev R33:=Int
def to33(r:R33):Ans:=⟨(zg r),[]⟩
def zdH(m:(Option ze)):Option R33:=Tree.run0 <|
 .c m.isNone
 (.r 0)
 (.g m.isSome <|
 .r (bop .quo .i64 (((m.getD default).words).length) 16))
theorem zM3(m:(Option ze)):Oks 33 [.op .sMemMemory m] [] (zdH m) to33:=zL K0 (H:=H0) zJ Tryz.func33 rfl (by kernel_rfl) (fun J=>by kernel_rfl)
abbrev R94:=Int
def to94(r:R94):Ans:=⟨(zr r),[]⟩
def zxS(frame:Int)(rights:Int):R94:=(bop .or .u32 (bop .or .u32 2147483648 (bop .shl .u32 (u32.wrap frame) 3)) (u32.wrap rights))
theorem zNZ(frame:Int)(rights:Int):Oks 94 [(zg frame),(zg rights)] [] (some (zxS frame rights)) to94:=zbh K0 (H:=H0) zJ Tryz.func94 rfl (by kernel_rfl) (fun J=>by kernel_rfl)
abbrev R220:=Int
def zPT(r:R220):Ans:=⟨(zr r),[]⟩
def zsg(b:Bool):R220:=Tree.val (L:=Empty) <|
 .c b
 (.r 1)
 (.r 0)
theorem zIN(b:Bool):Oks 220 [(avB b)] [] (some (zsg b)) zPT:=zbt K0 (H:=H0) zJ Tryz.func220 rfl (by kernel_rfl) rfl (fun J=>by kernel_rfl)
abbrev R178:=Int
def zPO(r:R178):Ans:=⟨(zg r),[]⟩
def zmM(f:zy):R178:=(i64.wrap (1+f.words))
theorem zIt(f:zy):Oks 178 [.agg [(zg f.words),(zg f.depth)]] [] (some (zmM f)) zPO:=zbh K0 (H:=H0) zJ Tryz.func178 rfl (by kernel_rfl) (fun J=>by kernel_rfl)
abbrev R84:=zaY
def to84(r:R84):Ans:=⟨.agg [(zg r.first),(zg r.second)],[]⟩
def zJi:R84:=(⟨(-1),(-1)⟩:zaY)
theorem zNP:Oks 84 [] [] (some (zJi)) to84:=zbh K0 (H:=H0) zJ Tryz.func84 rfl (by kernel_rfl) (fun J=>by kernel_rfl)
def k10:Fk 10:=aF (aL (.i .i64) fun a0=>aL (.i .i64) fun a1=>aE (zML a0 a1))
def k13:Fk 13:=aF (aS .sBulkheadlaw25Op fun a0=>aE (zMO a0))
def k20:Fk 20:=aF (aE (zMQ))
def k23:Fk 23:=aF (aS .sConfig fun a0=>aE (zMT a0))
def k24:Fk 24:=aF (aS .sConfig fun a0=>aE (zMU a0))
def k25:Fk 25:=aF (aL (.sl .sFeed) fun a0=>aE (zMV a0))
def g29(args:List AV)(hp:List Blk):Option Rsp:=
 match args,hp with
 | [.own 0,a1],[.row 85 .sFeed [(2,46)] [] y0]=>(rdL (.sl .sFeed) a1).bind fun b1=>some ⟨R29,(zlc b1 y0),to29,default⟩
 | _,_=>none
def k29:Fk 29:=⟨g29,fun args hp y h x hx=>by
 unfold g29 at h
 split at h
 . simp only[Option.bind_eq_some_iff]at h
   obtain ⟨b1,h1,h⟩:=h
   cases h;exact(zMZ b1 _).ats (.cons (fun _ _ _ _ h=>h) (.cons (z8 h1) .nil)) hx
 . cases h⟩
def k32:Fk 32:=aF (aL (.sl (.i .u32)) fun a0=>aE (zM2 a0))
def k33:Fk 33:=aF (aL (.p .sMemMemory) fun a0=>aE (zM3 a0))
def k35:Fk 35:=aF (aL (.sl (.i .u32)) fun a0=>aE (zM5 a0))
def k36:Fk 36:=aF (aL (.p .sCallsCalls) fun a0=>aL (.i .i64) fun a1=>aL (.i .i64) fun a2=>aE (zM6 a0 a1 a2))
def k43:Fk 43:=aF (aL (.p .sMemMemory) fun a0=>aL (.i .i64) fun a1=>aL (.i .i64) fun a2=>aE (zNa a0 a1 a2))
def k55:Fk 55:=aF (aS .sPartition fun a0=>aS .sPartition fun a1=>aE (zNm a0 a1))
def k61:Fk 61:=aF (aL (.p .sDuctDucts) fun a0=>aL (.i .i64) fun a1=>aE (zNs a0 a1))
def zDf:Fk 61:=aF (aL (.p .sDuctDucts) fun a0=>aL (.i .i64) fun a1=>aE (zxB a0 a1))
def g68(args:List AV)(hp:List Blk):Option Rsp:=
 match args,hp with
 | [.ref 0 0],[.cells 116 [.op .sCallsCalls y0,.ref 1 0,.v (.int .i64 y1),.v (.int .i64 y2),.v (.int .u32 y3),.v (.int .u32 y4),.v (.int .u32 y5),.v (.int .u32 y6),.v (.int .u32 y7),.v (.int .u32 y8),.v (.int .u32 y9),.v (.int .u32 y10),.v (.int .u32 y11),.v (.int .u32 y12),.v (.int .u32 y13),.v (.int .u32 y14),.v (.int .u32 y15),.v (.int .u32 y16),.v (.int .u32 y17),.v (.int .u32 y18),.v (.int .u32 y19)],.cells 112 [.own 2],.arr 46 (.i .u32) y20]=>some ⟨R68,(some (zfd y0 y1 y2 (⟨(⟨y3,y4,y5,y6,y7,y8,y9,y10,y11,y12,y13,y14,y15,y16,y17,y18⟩:zZ),y19⟩:zB) y20)),to68,default⟩
 | _,_=>none
def k68:Fk 68:=⟨g68,fun args hp y h x hx=>by
 unfold g68 at h
 split at h
 . cases h;exact(zNz _ _ _ _ _).ats (.cons (fun _ _ _ _ h=>h) .nil) hx
 . cases h⟩
def k72:Fk 72:=aF (aS .sConfig fun a0=>aL (.i .i64) fun a1=>aL (.i .i64) fun a2=>aL .b fun a3=>aE (zND a0 a1 a2 a3))
def k73:Fk 73:=aF (aS .sConfig fun a0=>aL (.i .i64) fun a1=>aL (.i .i64) fun a2=>aE (zNE a0 a1 a2))
def k74:Fk 74:=aF (aL (.p .sDuctDucts) fun a0=>aL (.i .i64) fun a1=>aL (.i .i64) fun a2=>aE (zNF a0 a1 a2))
def k78:Fk 78:=aF (aS .sConfig fun a0=>aL (.i .i64) fun a1=>aE (zNJ a0 a1))
def k79:Fk 79:=aF (aS .sChannel fun a0=>aE (zNK a0))
def k81:Fk 81:=aF (aS .sPartition fun a0=>aE (zNM a0))
def k84:Fk 84:=aF (aE (zNP))
def k87:Fk 87:=aF (aL (.i .i64) fun a0=>aE (zNS a0))
def k90:Fk 90:=aF (aS .sConfig fun a0=>aL (.i .i64) fun a1=>aE (zNV a0 a1))
def k91:Fk 91:=aF (aS .sConfig fun a0=>aL (.sl .sFeed) fun a1=>aE (zNW a0 a1))
def k93:Fk 93:=aF (aS .sPartition fun a0=>aL (.i .i64) fun a1=>aE (zNY a0 a1))
def k94:Fk 94:=aF (aL (.i .i64) fun a0=>aL (.i .i64) fun a1=>aE (zNZ a0 a1))
def k95:Fk 95:=aF (aS .sPartition fun a0=>aL (.i .i64) fun a1=>aE (zN0 a0 a1))
def k96:Fk 96:=aF (aL (.i .i64) fun a0=>aE (zN1 a0))
def k105:Fk 105:=aF (aL (.p .sDeviceDevices) fun a0=>aL (.i .i64) fun a1=>aL (.i .i64) fun a2=>aL (.i .u32) fun a3=>aE (zHv a0 a1 a2 a3))
def k108:Fk 108:=aF (aS .sPartition fun a0=>aL (.i .i64) fun a1=>aE (zHy a0 a1))
def k110:Fk 110:=aF (aS .sPartition fun a0=>aL (.i .i64) fun a1=>aL .b fun a2=>aE (zHA a0 a1 a2))
def k112:Fk 112:=aF (aS .sPartition fun a0=>aL (.i .i64) fun a1=>aE (zHC a0 a1))
def k114:Fk 114:=aF (aL .b fun a0=>aL (.i .i64) fun a1=>aS .sWhere fun a2=>aE (zHD a0 a1 a2))
def k115:Fk 115:=aF (aL (.i .i64) fun a0=>aL (.i .i64) fun a1=>aL (.i .i64) fun a2=>aE (zHE a0 a1 a2))
def k128:Fk 128:=aF (aS .sConfig fun a0=>aS .sPartition fun a1=>aE (zHJ a0 a1))
def g129(args:List AV)(hp:List Blk):Option Rsp:=
 match args,hp with
 | [a0,.ref 0 0],[.cells 3 [.v (.int .i64 y0)]]=>(rdL (.i .i64) a0).bind fun b0=>some ⟨zFY,(some (zb8 b0 y0)),zFh,default⟩
 | _,_=>none
def k129:Fk 129:=⟨g129,fun args hp y h x hx=>by
 unfold g129 at h
 split at h
 . simp only[Option.bind_eq_some_iff]at h
   obtain ⟨b0,h0,h⟩:=h
   cases h;exact(zHK b0 _).ats (.cons (z8 h0) (.cons (fun _ _ _ _ h=>h) .nil)) hx
 . cases h⟩
def k134:Fk 134:=aF (aL (.i .i64) fun a0=>aL (.i .i64) fun a1=>aL (.i .i64) fun a2=>aE (zHL a0 a1 a2))
def k138:Fk 138:=aF (aS .sConfig fun a0=>aL (.i .i64) fun a1=>aE (zHP a0 a1))
def k139:Fk 139:=aF (aS .sConfig fun a0=>aL (.i .i64) fun a1=>aL (.i .i64) fun a2=>aE (zHQ a0 a1 a2))
def k140:Fk 140:=aF (aL (.i .i64) fun a0=>aL (.i .i64) fun a1=>aL (.i .i64) fun a2=>aL (.i .i64) fun a3=>aE (zHR a0 a1 a2 a3))
def k142:Fk 142:=aF (aS .sFeed fun a0=>aS .sFeed fun a1=>aE (zHT a0 a1))
def k145:Fk 145:=aF (aL (.p .sDuctDucts) fun a0=>aL (.i .i64) fun a1=>aL (.i .i64) fun a2=>aL (.i .i64) fun a3=>aE (zHW a0 a1 a2 a3))
def k148:Fk 148:=aF (aS .sChannel fun a0=>aE (zHZ a0))
def k149:Fk 149:=aF (aL (.sl .sAdmitFound) fun a0=>aE (zH0 a0))
def k151:Fk 151:=aF (aL (.i .i64) fun a0=>aE (zH2 a0))
def k154:Fk 154:=aF (aL (.i .i64) fun a0=>aL (.i .i64) fun a1=>aE (zH5 a0 a1))
def k155:Fk 155:=aF (aS .sConfig fun a0=>aL (.i .i64) fun a1=>aE (zH6 a0 a1))
def k156:Fk 156:=aF (aS .sConfig fun a0=>aL (.i .i64) fun a1=>aL (.i .i64) fun a2=>aE (zH7 a0 a1 a2))
def k157:Fk 157:=aF (aL (.i .i64) fun a0=>aL (.i .i64) fun a1=>aL (.i .i64) fun a2=>aL (.i .i64) fun a3=>aE (zH8 a0 a1 a2 a3))
def k159:Fk 159:=aF (aL .s fun a0=>aE (zIa a0))
def k166:Fk 166:=aF (aL .s fun a0=>aE (zIh a0))
def k171:Fk 171:=aF (aL (.p .sMemMemory) fun a0=>aS .sQueueForm fun a1=>aE (zIm a0 a1))
def k175:Fk 175:=aF (aL (.i .u32) fun a0=>aE (zIq a0))
def k178:Fk 178:=aF (aS .sQueueForm fun a0=>aE (zIt a0))
def k180:Fk 180:=aF (aL (.sl (.i .u32)) fun a0=>aE (zIv a0))
def k220:Fk 220:=aF (aL .b fun a0=>aE (zIN a0))
def k225:Fk 225:=aF (aL (.p .sMemMemory) fun a0=>aL (.i .i64) fun a1=>aE (zIS a0 a1))
def k231:Fk 231:=aF (aL (.i .i64) fun a0=>aL (.i .i64) fun a1=>aL (.sl (.i .i64)) fun a2=>aE (zIY a0 a1 a2))
def k232:Fk 232:=aF (aL (.sl (.i .u32)) fun a0=>aE (zIZ a0))
def k233:Fk 233:=aF (aL (.sl (.i .u32)) fun a0=>aL (.i .i64) fun a1=>aE (zI0 a0 a1))
def GC0:GK:=zC5 [⟨61,zDf⟩] (zlj [⟨10,k10⟩,⟨13,k13⟩,⟨20,k20⟩,⟨23,k23⟩,⟨24,k24⟩,⟨25,k25⟩,⟨29,k29⟩,⟨32,k32⟩,⟨33,k33⟩,⟨35,k35⟩,⟨36,k36⟩,⟨43,k43⟩,⟨55,k55⟩,⟨61,k61⟩,⟨68,k68⟩,⟨72,k72⟩,⟨73,k73⟩,⟨74,k74⟩,⟨78,k78⟩,⟨79,k79⟩,⟨81,k81⟩,⟨84,k84⟩,⟨87,k87⟩,⟨90,k90⟩,⟨91,k91⟩,⟨93,k93⟩,⟨94,k94⟩,⟨95,k95⟩,⟨96,k96⟩,⟨105,k105⟩,⟨108,k108⟩,⟨110,k110⟩,⟨112,k112⟩,⟨114,k114⟩,⟨115,k115⟩,⟨128,k128⟩,⟨129,k129⟩,⟨134,k134⟩,⟨138,k138⟩,⟨139,k139⟩,⟨140,k140⟩,⟨142,k142⟩,⟨145,k145⟩,⟨148,k148⟩,⟨149,k149⟩,⟨151,k151⟩,⟨154,k154⟩,⟨155,k155⟩,⟨156,k156⟩,⟨157,k157⟩,⟨159,k159⟩,⟨166,k166⟩,⟨171,k171⟩,⟨175,k175⟩,⟨178,k178⟩,⟨180,k180⟩,⟨220,k220⟩,⟨225,k225⟩,⟨231,k231⟩,⟨232,k232⟩,⟨233,k233⟩] K0)
abbrev R28:=Bool × (List (List zam)) × (List zf) × (List zI)
def to28(r:R28):Ans:=⟨(avB r.1),[.row 136 (.sl .sWindow) [(0,135)] [] r.2.1,.row 72 .sPartition [(6,138),(7,74)] [] r.2.2.1,.arr 76 .sChannel r.2.2.2]⟩
inductive L28 where | l0 (x0:Bool) (x1:Int) (x2:List (List zam)) | l4 (x0:Bool) (x1:Int) (x2:Int) (x3:List (List zam)) | l8 (x0:Bool) (x1:Int) (x2:List (List zam)) (x3:List zf) | l12 (v0:R55) (x0:Int) (x1:Int) (x2:List (List zam)) (x3:List zf) | l20 (x0:Bool) (x1:Int) (x2:List (List zam)) (x3:List zf) (x4:List zI) | l16 (v0:R55) (x0:Int) (x1:Int) (x2:List (List zam)) (x3:List zf)
def H28:zaa:=⟨fun n=>[].any (Nat.beq n),zgf [(0,⟨fgt [2,3,5,6] 204 0,[]⟩),(4,⟨fgt [2,3,5,6,7] 204 0,[(.box 2 4,.home)]⟩),(8,⟨fgt [2,3,5,8] 204 0,[]⟩),(12,⟨fgt [2,3,5,8,9] 204 0,[(.box 2 5,.home)]⟩),(16,⟨fgt [2,3,5,8,10] 204 0,[(.box 2 5,.home)]⟩),(20,⟨fgt [2,3,5,11] 204 0,[]⟩)],[],G0,(fun e=>match e with | 72=>[(6,138),(7,74)] | 136=>[(0,135)] | _=>[])⟩
def st28(frames:Int)(major:Int)(kern:Int)(room:Int)(c:za)(rowC:List (List zam))(rowP:List zf)(rowH:List zI):L28->Nat × St | .l0 x0 x1 x2=>(0,⟨mkE [(2,.ref 3 0),(3,.ref 4 0),(5,(avB x0)),(6,(zg x1))] 204 0,[.row 136 (.sl .sWindow) [(0,135)] [] x2,.row 72 .sPartition [(6,138),(7,74)] [] rowP,.arr 76 .sChannel rowH,.cells 26 [(zg frames),(zg major),(zg kern),(zg room),.own 0,.own 1,.own 2],.cells 26 (Ty.enc .sConfig c)],GL,3,[],(fun e=>match e with | 72=>[(6,138),(7,74)] | 136=>[(0,135)] | _=>[])⟩) | .l4 x0 x1 x2 x3=>(4,⟨mkE [(2,.ref 3 0),(3,.ref 4 0),(5,(avB x0)),(6,(zg x1)),(7,(zg x2))] 204 0,[.row 136 (.sl .sWindow) [(0,135)] [] x3,.row 72 .sPartition [(6,138),(7,74)] [] rowP,.arr 76 .sChannel rowH,.cells 26 [(zg frames),(zg major),(zg kern),(zg room),.own 0,.own 1,.own 2],.cells 26 (Ty.enc .sConfig c)],GL,3,[],(fun e=>match e with | 72=>[(6,138),(7,74)] | 136=>[(0,135)] | _=>[])⟩) | .l8 x0 x1 x2 x3=>(8,⟨mkE [(2,.ref 3 0),(3,.ref 4 0),(5,(avB x0)),(8,(zg x1))] 204 0,[.row 136 (.sl .sWindow) [(0,135)] [] x2,.row 72 .sPartition [(6,138),(7,74)] [] x3,.arr 76 .sChannel rowH,.cells 26 [(zg frames),(zg major),(zg kern),(zg room),.own 0,.own 1,.own 2],.cells 26 (Ty.enc .sConfig c)],GL,3,[],(fun e=>match e with | 72=>[(6,138),(7,74)] | 136=>[(0,135)] | _=>[])⟩) | .l12 v0 x0 x1 x2 x3=>(12,⟨mkE [(2,.ref 3 0),(3,.ref 4 0),(5,(avB v0)),(8,(zg x0)),(9,(zg x1))] 204 0,[.row 136 (.sl .sWindow) [(0,135)] [] x2,.row 72 .sPartition [(6,138),(7,74)] [] x3,.arr 76 .sChannel rowH,.cells 26 [(zg frames),(zg major),(zg kern),(zg room),.own 0,.own 1,.own 2],.cells 26 (Ty.enc .sConfig c)],GL,3,[],(fun e=>match e with | 72=>[(6,138),(7,74)] | 136=>[(0,135)] | _=>[])⟩) | .l20 x0 x1 x2 x3 x4=>(20,⟨mkE [(2,.ref 3 0),(3,.ref 4 0),(5,(avB x0)),(11,(zg x1))] 204 0,[.row 136 (.sl .sWindow) [(0,135)] [] x2,.row 72 .sPartition [(6,138),(7,74)] [] x3,.arr 76 .sChannel x4,.cells 26 [(zg frames),(zg major),(zg kern),(zg room),.own 0,.own 1,.own 2],.cells 26 (Ty.enc .sConfig c)],GL,3,[],(fun e=>match e with | 72=>[(6,138),(7,74)] | 136=>[(0,135)] | _=>[])⟩) | .l16 v0 x0 x1 x2 x3=>(16,⟨mkE [(2,.ref 3 0),(3,.ref 4 0),(5,(avB v0)),(8,(zg x0)),(10,(zg x1))] 204 0,[.row 136 (.sl .sWindow) [(0,135)] [] x2,.row 72 .sPartition [(6,138),(7,74)] [] x3,.arr 76 .sChannel rowH,.cells 26 [(zg frames),(zg major),(zg kern),(zg room),.own 0,.own 1,.own 2],.cells 26 (Ty.enc .sConfig c)],GL,3,[],(fun e=>match e with | 72=>[(6,138),(7,74)] | 136=>[(0,135)] | _=>[])⟩)
def zeD(frames:Int)(major:Int)(kern:Int)(room:Int)(c:za)(rowC:List (List zam))(rowP:List zf)(rowH:List zI):L28->Tree L28 R28 | .l0 x0 x1 x2 =>let y1:=zD x2 x1.toNat;.c x0 (.c (decide (x1<c.cores.length)) (.g (zN x1 x2.length) <| .g (zN x1 c.cores.length) <| .j (.l4 ((y1.length:Int)==(zD c.cores x1.toNat).length) x1 0 (List.set x2 x1.toNat y1))) (.j (.l8 x0 0 x2 rowP))) (.j (.l8 x0 0 x2 rowP)) | .l4 x0 x1 x2 x3 =>let y1:=zD x3 x1.toNat;let y2:=zD c.cores x1.toNat;let y3:=List.set x3 x1.toNat y1;let y4:=zbz y1 x2.toNat;let y5:=zbz y2 x2.toNat;let y6:=i64.wrap (x1+1);let y7:=zN x1 c.cores.length;let y8:=zD y3 x1.toNat;.c x0 (.g y7 <| .c (decide (x2<y2.length)) (.g (zN x1 x3.length) <| .g (zN x2 y1.length) <| .g y7 <| .g (zN x2 y2.length) <| .g (zN x1 x3.length) <| .g (zN x2 y8.length) <| .j (.l4 (((y4.partition:Int)==(y5.partition))&&(((y4.usable:Int)==(y5.usable))&&(((y4.slack:Int)==(y5.slack))&&true))) x1 (i64.wrap (x2+1)) (List.set y3 x1.toNat (List.set y8 x2.toNat (⟨(-1),1,0⟩:zam))))) (.j (.l0 x0 y6 x3))) (.j (.l0 x0 y6 x3)) | .l8 x0 x1 x2 x3 =>let y2:=zb x3 x1.toNat;let y3:=List.set x3 x1.toNat y2;let y1:=zb y3 x1.toNat;.c x0 (.c (decide (x1<c.partitions.length)) (.g (zN x1 x3.length) <| .g (zN x1 c.partitions.length) <| .b (zsN y2 (zb c.partitions x1.toNat)) fun r1=>.j (.l12 r1 x1 0 x2 (List.set y3 x1.toNat (⟨y1.name,y1.entry,y1.action,y1.restarts,y1.inputs,y1.outputs,y2.regions,y1.ports⟩:zf)))) (.j (.l20 x0 0 x2 x3 rowH))) (.j (.l20 x0 0 x2 x3 rowH)) | .l12 v0 x0 x1 x2 x3 =>let y1:=zb x3 x0.toNat;.c v0 (.g (zN x0 c.partitions.length) <| .c (decide (x1<((zb c.partitions x0.toNat).regions).length)) (.g (zN x0 x3.length) <| .g (zN x1 (y1.regions).length) <| .j (.l12 v0 x0 (i64.wrap (x1+1)) x2 (List.set x3 x0.toNat (⟨y1.name,y1.entry,y1.action,y1.restarts,y1.inputs,y1.outputs,(List.set (y1.regions) x1.toNat (⟨200,1,0,0⟩:Region)),y1.ports⟩:zf)))) (.j (.l16 v0 x0 0 x2 x3))) (.j (.l16 v0 x0 0 x2 x3)) | .l20 x0 x1 x2 x3 x4 =>let y1:=zu c.channels x1.toNat;let y2:=zu x4 x1.toNat;let y3:=zN x1 c.channels.length;.c x0 (.c (decide (x1<c.channels.length)) (.g (zN x1 x4.length) <| .g y3 <| .g y3 <| .g (zN x1 x4.length) <| .j (.l20 (((y2.kind:Int)==(y1.kind))&&(((y2.words:Int)==(y1.words))&&(((y2.depth:Int)==(y1.depth))&&true))) (i64.wrap (x1+1)) x2 x3 (List.set x4 x1.toNat (⟨(i64.wrap (3-y1.kind)),1,1⟩:zI)))) (.r (x0,x2,x3,x4))) (.r (x0,x2,x3,x4)) | .l16 v0 x0 x1 x2 x3 =>let y1:=zb x3 x0.toNat;let y2:=(List.set x3 x0.toNat (⟨(ByteArray.mk #[115,112,111,105,108,116]),0,0,0,0,0,[],[]⟩:zf));let y3:=zN x0 x3.length;let y4:=i64.wrap (x0+1);.c v0 (.g (zN x0 c.partitions.length) <| .c (decide (x1<((zb c.partitions x0.toNat).ports).length)) (.g y3 <| .g (zN x1 (y1.ports).length) <| .j (.l16 v0 x0 (i64.wrap (x1+1)) x2 (List.set x3 x0.toNat (⟨y1.name,y1.entry,y1.action,y1.restarts,y1.inputs,y1.outputs,y1.regions,(List.set (y1.ports) x1.toNat (⟨77,false⟩:zb9))⟩:zf)))) (.g y3 <| .j (.l8 v0 y4 x2 y2))) (.g y3 <| .j (.l8 v0 y4 x2 y2))
def zEk(frames:Int)(major:Int)(kern:Int)(room:Int)(c:za)(rowC:List (List zam))(rowP:List zf)(rowH:List zI):Tree L28 R28:=.c ((rowC.length:Int)==c.cores.length) (.c ((rowP.length:Int)==c.partitions.length) (.j (.l0 ((rowH.length:Int)==c.channels.length) 0 rowC)) (.j (.l0 false 0 rowC))) (.j (.l0 false 0 rowC))
def zcI(frames:Int)(major:Int)(kern:Int)(room:Int)(c:za)(rowC:List (List zam))(rowP:List zf)(rowH:List zI):L28->Option R28:=zan (zeD frames major kern room c rowC rowP rowH)
theorem zbX(frames:Int)(major:Int)(kern:Int)(room:Int)(c:za)(rowC:List (List zam))(rowP:List zf)(rowH:List zI)(l:L28):zcI frames major kern room c rowC rowP rowH l=(zeD frames major kern room c rowC rowP rowH l).run (zcI frames major kern room c rowC rowP rowH):=zF _ l
def zlb(frames:Int)(major:Int)(kern:Int)(room:Int)(c:za)(rowC:List (List zam))(rowP:List zf)(rowH:List zI):Option R28:=(zEk frames major kern room c rowC rowP rowH).run (zcI frames major kern room c rowC rowP rowH)
theorem zMY(frames:Int)(major:Int)(kern:Int)(room:Int)(c:za)(rowC:List (List zam))(rowP:List zf)(rowH:List zI):Oks 28 [.agg [(zg frames),(zg major),(zg kern),(zg room),.own 0,.own 1,.own 2],.agg (Ty.enc .sConfig c)] [.row 136 (.sl .sWindow) [(0,135)] [] rowC,.row 72 .sPartition [(6,138),(7,74)] [] rowP,.arr 76 .sChannel rowH] (zlb frames major kern room c rowC rowP rowH) to28:=zM GC0 (H:=H28) zJ Tryz.func28 rfl (by kernel_rfl) (st28 frames major kern room c rowC rowP rowH) (fun J l=>by cases l <;> kernel_rfl) (fun J=>by kernel_rfl)
abbrev R57:=(List Int)
def to57(r:R57):Ans:=⟨.tup [],[.arr 46 (.i .u32) r]⟩
inductive L57 where | l0 (x0:Int) (x1:Int) (x2:List Int) | l4 (x0:Int) (x1:Int) (x2:Bool) (x3:Int) (x4:List Int) | l9 (x0:Int) (x1:Int) (x2:List Int)
def H57:zaa:=htt [4] [(0,⟨fgt [0,4,5,6,7] 62 0,[]⟩),(4,⟨fgt [0,4,5,6,7,8,9] 62 0,[]⟩),(9,⟨fgt [0,4,5,6,7] 62 0,[]⟩)] []
def st57(p:zf)(pl:zj)(m:List Int):L57->Nat × St | .l0 x0 x1 x2=>(0,⟨mkE [(0,.own 0),(4,.ref 1 0),(5,.ref 2 0),(6,(zg x0)),(7,(zg x1))] 62 0,[.arr 46 (.i .u32) x2,.cells 72 (Ty.enc .sPartition p),.cells 140 (Ty.enc .sPartitionPlace pl)],GL,1,[],zO⟩) | .l4 x0 x1 x2 x3 x4=>(4,⟨mkE [(0,.own 0),(4,.ref 1 0),(5,.ref 2 0),(6,(zg x0)),(7,(zg x1)),(8,(avB x2)),(9,(zg x3))] 62 0,[.arr 46 (.i .u32) x4,.cells 72 (Ty.enc .sPartition p),.cells 140 (Ty.enc .sPartitionPlace pl)],GL,1,[],zO⟩) | .l9 x0 x1 x2=>(9,⟨mkE [(0,.own 0),(4,.ref 1 0),(5,.ref 2 0),(6,(zg x0)),(7,(zg x1))] 62 0,[.arr 46 (.i .u32) x2,.cells 72 (Ty.enc .sPartition p),.cells 140 (Ty.enc .sPartitionPlace pl)],GL,1,[],zO⟩)
def zkE(p:zf)(pl:zj)(m:List Int):L57->Tree L57 R57 | .l0 x0 x1 x2=>.c (decide (x1<16)) (.j (.l4 x0 x1 false 0 x2)) (.r x2) | .l4 x0 x1 x2 x3 x4 =>let y1:=i64.wrap ((i64.wrap (zw pl.tables x0.toNat*16))+x3);let y2:=i64.wrap ((i64.wrap (pl.root*16))+x1);let y3:=i64.wrap ((i64.wrap (x1*16))+x3);let y4:=i64.wrap (x3+1);let y5:=zN x0 pl.tables.length;.c (decide (x3<16)) (.b (zpk p (i64.wrap (y3*16))) fun r1=>.c (decide ((r1:Int)<0)) (.j (.l4 x0 x1 x2 y4 x4)) (.g y5 <| .b (zvZ p y3) fun r2=>.g (zN y1 x4.length) <| .j (.l4 x0 x1 true y4 (List.set x4 (y1.toNat) (zxS (bop .quo .i64 r1 16) r2))))) (.c x2 (.g y5 <| .g (zN y2 x4.length) <| .j (.l9 (i64.wrap (x0+1)) x1 (List.set x4 (y2.toNat) (zxS (zw pl.tables x0.toNat) 0)))) (.j (.l9 x0 x1 x4))) | .l9 x0 x1 x2=>.j (.l0 x0 (i64.wrap (x1+1)) x2)
def zEz(p:zf)(pl:zj)(m:List Int):Tree L57 R57:=.j (.l0 0 0 m)
def zjd(p:zf)(pl:zj)(m:List Int):L57->Option R57:=zan (zkE p pl m)
theorem zfi(p:zf)(pl:zj)(m:List Int)(l:L57):zjd p pl m l=(zkE p pl m l).run (zjd p pl m):=zF _ l
def zpg(p:zf)(pl:zj)(m:List Int):Option R57:=(zEz p pl m).run (zjd p pl m)
theorem zNo(p:zf)(pl:zj)(m:List Int):Oks 57 [.own 0,.agg (Ty.enc .sPartition p),.agg (Ty.enc .sPartitionPlace pl)] [.arr 46 (.i .u32) m] (zpg p pl m) to57:=zM GC0 (H:=H57) zJ Tryz.func57 rfl (by kernel_rfl) (st57 p pl m) (fun J l=>by cases l <;> kernel_rfl) (fun J=>by kernel_rfl)
abbrev R169:=Bool
def zPH(r:R169):Ans:=⟨(avB r),[]⟩
def zqS(x:zX)(l_1:(List Int)):Option R169:=Tree.run0 <|
 .g (zN 0 l_1.length) <|
 .c (decide ((zw l_1 0:Int)>3))
 (.r false)
 (.g (zN 1 l_1.length) <|
 .c (decide ((zw l_1 1:Int)>x.most))
 (.r false)
 (.g (zN 4 l_1.length) <|
 .c (decide ((zw l_1 4:Int)>x.outs))
 (.r false)
 (.g (zN 2 l_1.length) <|
 .c (decide ((zw l_1 2:Int)>6))
 (.r false)
 (.g (zN 2 l_1.length) <|
 .c ((zw l_1 2:Int)==0)
 (.g (zN 3 l_1.length) <|
 .c (!((zw l_1 3:Int)==0))
 (.r false)
 (.g (zN 0 l_1.length) <|
 .c (!((zw l_1 0:Int)==2))
 (.r true)
 (.g (zN 1 l_1.length) <|
 .n)))
 (.g (zN 0 l_1.length) <|
 .c (!((zw l_1 0:Int)==2))
 (.r true)
 (.g (zN 1 l_1.length) <|
 .n))))))
theorem zIk(x:zX)(l_1:(List Int)):Oks 169 [.agg [(zg x.place.lock),(zg x.place.save),(zg x.place.state),(zg x.place.root),.sl (.i .i64) x.place.tables,(zr x.entry),(zr x.most),(zr x.outs),.any,.any],.sl (.i .u32) l_1] [] (zqS x l_1) zPH:=zL GC0 (H:=H0) zJ Tryz.func169 rfl (by kernel_rfl) (fun J=>by kernel_rfl)
abbrev R98:=Int × Int
def to98(r:R98):Ans:=⟨.tup [(zg r.1),(zg r.2)],[]⟩
def zpl(d:(Option zH))(p:Int)(port:Int):Option R98:=Tree.run0 <|
 .b (zhE d p port) fun r1=>
 .c d.isNone
 (.r (0,0))
 (.c (!r1.2)
 (.r (0,1))
 (.c (!r1.1.source)
 (.r (0,2))
 (.g d.isSome <|
 .g (zN r1.1.channel ((d.getD default).c.channels).length) <|
 .r ((zu ((d.getD default).c.channels) r1.1.channel.toNat).words,0))))
theorem zN3(d:(Option zH))(p:Int)(port:Int):Oks 98 [.op .sDuctDucts d,(zg p),(zg port)] [] (zpl d p port) to98:=zL GC0 (H:=H0) zJ Tryz.func98 rfl (by kernel_rfl) (fun J=>by kernel_rfl)
abbrev zyE:=Bool
def zPs(r:zyE):Ans:=⟨(avB r),[]⟩
inductive zwA where | l0 (x0:Int)
def H150:zaa:=htt [] [(0,⟨fgt [1,2,10,11,12] 33 0,[]⟩)] []
def zOv(c:za)(p:Int):zwA->Nat × St | .l0 x0=>(0,⟨mkE [(1,(zg p)),(2,.ref 0 0),(10,.sl .sPartition ((c.partitions.take p.toNat).drop 0)),(11,(zg (((c.partitions.take p.toNat).drop 0).length))),(12,(zg x0))] 33 0,[.cells 26 (Ty.enc .sConfig c)],GL,0,[],zO⟩)
def zpN(c:za)(p:Int):zwA->Tree zwA zyE | .l0 x0 =>let y1:=(c.partitions.take p.toNat).drop 0;let y2:=(zb c.partitions p.toNat).name;let y3:=zN p c.partitions.length;.c (decide (x0<y1.length)) (.g (zN x0 y1.length) <| .g y3 <| .c (((zb y1 x0.toNat).name).toList==y2.toList) (.r false) (.j (.l0 (i64.wrap (x0+1))))) (.g y3 <| .b (zqR y2) fun r1=>.r r1)
def zzK(c:za)(p:Int):Tree zwA zyE:=.g (inS 0 p c.partitions.length) <| .j (.l0 0)
def zqx(c:za)(p:Int):zwA->Option zyE:=zan (zpN c p)
theorem zo2(c:za)(p:Int)(l:zwA):zqx c p l=(zpN c p l).run (zqx c p):=zF _ l
def znb(c:za)(p:Int):Option zyE:=(zzK c p).run (zqx c p)
theorem zH1(c:za)(p:Int):Oks 150 [.agg (Ty.enc .sConfig c),(zg p)] [] (znb c p) zPs:=zM GC0 (H:=H150) zJ Tryz.func150 rfl (by kernel_rfl) (zOv c p) (fun J l=>by cases l <;> kernel_rfl) (fun J=>by kernel_rfl)
abbrev zw3:=Int × ze
def zFH(r:zw3):Ans:=⟨(zg r.1),[.cells 112 [.own 1],.arr 46 (.i .u32) r.2.words]⟩
inductive zwR where | l0 (x0:Int) (x1:List Int)
def H229:zaa:=htt [] [(0,⟨fgt [0,1,3,18,19] 32 0,[]⟩)] []
def zOM(pl:Int)(many:Int)(word:Int)(ws:List Int):zwR->Nat × St | .l0 x0 x1=>(0,⟨mkE [(0,.ref 0 0),(1,(zg pl)),(3,(zr word)),(18,(zg many)),(19,(zg x0))] 32 0,[.cells 112 [.own 1],.arr 46 (.i .u32) x1],GL,2,[],zO⟩)
def zpT(pl:Int)(many:Int)(word:Int)(ws:List Int):zwR->Tree zwR zw3 | .l0 x0 x1 =>let y1:=i64.wrap (pl+x0);.c (decide (x0<many)) (.g (zN y1 x1.length) <| .j (.l0 (i64.wrap (x0+1)) (List.set x1 (y1.toNat) word))) (.r (0,(⟨x1⟩:ze)))
def zzZ(pl:Int)(many:Int)(word:Int)(ws:List Int):Tree zwR zw3:=.b (zfo (some (⟨ws⟩:ze)) pl many) fun r1=>.c (!((r1:Int)==0)) (.r (r1,(⟨ws⟩:ze))) (.j (.l0 0 ws))
def zh9(pl:Int)(many:Int)(word:Int)(ws:List Int):zwR->Option zw3:=zan (zpT pl many word ws)
theorem zo8(pl:Int)(many:Int)(word:Int)(ws:List Int)(l:zwR):zh9 pl many word ws l=(zpT pl many word ws l).run (zh9 pl many word ws):=zF _ l
def zku(pl:Int)(many:Int)(word:Int)(ws:List Int):Option zw3:=(zzZ pl many word ws).run (zh9 pl many word ws)
theorem zIW(pl:Int)(many:Int)(word:Int)(ws:List Int):Oks 229 [.ref 0 0,(zg pl),(zg many),(zr word)] [.cells 112 [.own 1],.arr 46 (.i .u32) ws] (zku pl many word ws) zFH:=zM GC0 (H:=H229) zJ Tryz.func229 rfl (by kernel_rfl) (zOM pl many word ws) (fun J l=>by cases l <;> kernel_rfl) (fun J=>by kernel_rfl)
abbrev R56:=Bool
def to56(r:R56):Ans:=⟨(avB r),[]⟩
inductive L56 where | l0 (x0:Int)
def H56:zaa:=htt [] [(0,⟨fgt [1,2,5] 19 0,[]⟩)] []
def st56(p:zf)(program:(List Int)):L56->Nat × St | .l0 x0=>(0,⟨mkE [(1,.sl (.i .u32) program),(2,.ref 0 0),(5,(zg x0))] 19 0,[.cells 72 (Ty.enc .sPartition p)],GL,0,[],zO⟩)
def zrj(p:zf)(program:(List Int)):L56->Tree L56 R56 | .l0 x0=>.c (decide (x0<program.length)) (.b (zpk p x0) fun r1=>.c (decide ((r1:Int)<0)) (.r false) (.j (.l0 (i64.wrap (x0+16))))) (.r true)
def zEy(p:zf)(program:(List Int)):Tree L56 R56:=.c (decide ((program.length:Int)>1024)) (.r false) (.j (.l0 0))
def zvF(p:zf)(program:(List Int)):L56->Option R56:=zan (zrj p program)
theorem zm0(p:zf)(program:(List Int))(l:L56):zvF p program l=(zrj p program l).run (zvF p program):=zF _ l
def zsO(p:zf)(program:(List Int)):Option R56:=(zEy p program).run (zvF p program)
theorem zNn(p:zf)(program:(List Int)):Oks 56 [.agg (Ty.enc .sPartition p),.sl (.i .u32) program] [] (zsO p program) to56:=zM GC0 (H:=H56) zJ Tryz.func56 rfl (by kernel_rfl) (st56 p program) (fun J l=>by cases l <;> kernel_rfl) (fun J=>by kernel_rfl)
abbrev R21:=Int × Int
def to21(r:R21):Ans:=⟨.tup [(zr r.1),(zg r.2)],[]⟩
def zey(m:(Option ze))(at_1:Int):Option R21:=Tree.run0 <|
 .b (zfo m at_1 1) fun r1=>
 .c (!((r1:Int)==0))
 (.r (0,r1))
 (.g m.isSome <|
 .g (zN at_1 ((m.getD default).words).length) <|
 .r (zw ((m.getD default).words) at_1.toNat,0))
theorem zMR(m:(Option ze))(at_1:Int):Oks 21 [.op .sMemMemory m,(zg at_1)] [] (zey m at_1) to21:=zL GC0 (H:=H0) zJ Tryz.func21 rfl (by kernel_rfl) (fun J=>by kernel_rfl)
abbrev R227:=Int
def zPY(r:R227):Ans:=⟨(zg r),[]⟩
def zfL(m:(Option ze))(at_1:Int)(n_2:Int):Option R227:=Tree.run0 <|
 .c (decide ((at_1:Int)<0))
 (.r 51)
 (.b (zdH m) fun r1=>
 .c (decide ((at_1:Int)>(i64.wrap ((i64.wrap (r1*16))-n_2))))
 (.r 51)
 (.r 0))
theorem zIU(m:(Option ze))(at_1:Int)(n_2:Int):Oks 227 [.op .sMemMemory m,(zg at_1),(zg n_2)] [] (zfL m at_1 n_2) zPY:=zL GC0 (H:=H0) zJ Tryz.func227 rfl (by kernel_rfl) (fun J=>by kernel_rfl)
abbrev R117:=zx
def zO1(r:R117):Ans:=⟨.agg [(zg r.e),(zg r.where_.first),(zg r.where_.second)],[]⟩
def zE6(a:za):R117:=(zag (zaZ a.cores.length 1 4) 402 nowhere)
theorem zAT(a:za):Oks 117 [.op .sConfig (some a)] [] (some (zE6 a)) zO1:=zbh GC0 (H:=H0) zJ Tryz.func117 rfl (by kernel_rfl) (fun J=>by kernel_rfl)
abbrev R176:=Int
def zPM(r:R176):Ans:=⟨(zg r),[]⟩
def zeH(f:zy)(head:Int):R176:=(i64.wrap (head+(i64.wrap (f.depth*(zmM f)))))
theorem zIr(f:zy)(head:Int):Oks 176 [.agg [(zg f.words),(zg f.depth)],(zg head)] [] (some (zeH f head)) zPM:=zbh GC0 (H:=H0) zJ Tryz.func176 rfl (by kernel_rfl) (fun J=>by kernel_rfl)
abbrev R77:=Int
def to77(r:R77):Ans:=⟨.fn (.func 129) [] [.ref 0 0],[.cells 3 [(zg r)]]⟩
def znY(at_0:Int):R77:=at_0
theorem zNI(at_0:Int):Oks 77 [(zg at_0)] [] (some (znY at_0)) to77:=zbh GC0 (H:=H0) zJ Tryz.func77 rfl (by kernel_rfl) (fun J=>by kernel_rfl)
abbrev zyF:=zx
def zPu(r:zyF):Ans:=⟨.agg [(zg r.e),(zg r.where_.first),(zg r.where_.second)],[]⟩
inductive zwB where | l0 (x0:Int) | l4 (x0:Int) | l8 (x0:Int) (x1:Int) (x2:List Region) (x3:Int) (x4:Int)
def H152:zaa:=htt [] [(0,⟨fgt [1,2,3,6,7,68,69,70] 133 0,[]⟩),(4,⟨fgt [1,2,6,7,92,93,94] 133 0,[]⟩),(8,⟨fgt [1,2,6,7,10,92,93,94,100,101,102] 133 0,[]⟩)] []
def zOw(c:za)(p:Int)(k:Int):zwB->Nat × St | .l0 x0=>(0,⟨mkE [(1,(zg p)),(2,(zg k)),(3,.ref 0 0),(6,.ref 1 0),(7,.ref 2 0),(68,.sl .sRegion ((((zb c.partitions p.toNat).regions).take k.toNat).drop 0)),(69,(zg (((((zb c.partitions p.toNat).regions).take k.toNat).drop 0).length))),(70,(zg x0))] 133 0,[.cells 26 (Ty.enc .sConfig c),.cells 194 [(zg 0),(zg 0),(zg 0)],.cells 138 (Ty.enc .sRegion (zh ((zb c.partitions p.toNat).regions) k.toNat))],GL,0,[],zO⟩) | .l4 x0=>(4,⟨mkE [(1,(zg p)),(2,(zg k)),(6,.ref 0 0),(7,.ref 1 0),(92,.sl .sPartition ((c.partitions.take (i64.wrap (p+1)).toNat).drop 0)),(93,(zg (((c.partitions.take (i64.wrap (p+1)).toNat).drop 0).length))),(94,(zg x0))] 133 0,[.cells 194 [(zg 0),(zg 0),(zg 0)],.cells 138 (Ty.enc .sRegion (zh ((zb c.partitions p.toNat).regions) k.toNat))],GL,0,[],zO⟩) | .l8 x0 x1 x2 x3 x4=>(8,⟨mkE [(1,(zg p)),(2,(zg k)),(6,.ref 0 0),(7,.ref 1 0),(10,(zg x0)),(92,.sl .sPartition ((c.partitions.take (i64.wrap (p+1)).toNat).drop 0)),(93,(zg (((c.partitions.take (i64.wrap (p+1)).toNat).drop 0).length))),(94,(zg x1)),(100,.sl .sRegion x2),(101,(zg x3)),(102,(zg x4))] 133 0,[.cells 194 [(zg 0),(zg 0),(zg 0)],.cells 138 (Ty.enc .sRegion (zh ((zb c.partitions p.toNat).regions) k.toNat))],GL,0,[],zO⟩)
def zf3(c:za)(p:Int)(k:Int):zwB->Tree zwB zyF | .l0 x0 =>let y1:=(zb c.partitions p.toNat).regions;let y2:=(y1.take k.toNat).drop 0;let y3:=zh y2 x0.toNat;let y4:=zh y1 k.toNat;.c (decide (x0<y2.length)) (.g (zN x0 y2.length) <| .c (zvA (y4.page) (y4.pages) (y3.page) (y3.pages)) (.r (⟨410,(zdG p k)⟩:zx)) (.j (.l0 (i64.wrap (x0+1))))) (.g (inS 0 (i64.wrap (p+1)) c.partitions.length) <| .j (.l4 0)) | .l4 x0 =>let y1:=(c.partitions.take (i64.wrap (p+1)).toNat).drop 0;let y2:=(zb y1 x0.toNat).regions;.c (decide (x0<y1.length)) (.g (zN x0 y1.length) <| .j (.l8 x0 x0 y2 (y2.length) 0)) (.r fine) | .l8 x0 x1 x2 x3 x4 =>let y2:=zh ((zb c.partitions p.toNat).regions) k.toNat;let y3:=i64.wrap (x4+1);let y4:=(⟨411,(zdG p k)⟩:zx);let y5:=zh x2 x4.toNat;let y1:=zvA (y2.frame) (y2.pages) (y5.frame) (y5.pages);.c (decide (x4<x3)) (.g (zN x4 x2.length) <| .c (decide (x0<p)) (.c y1 (.r y4) (.j (.l8 x0 x1 x2 x3 y3))) (.c (decide (x4<k)) (.c y1 (.r y4) (.j (.l8 x0 x1 x2 x3 y3))) (.j (.l8 x0 x1 x2 x3 y3)))) (.j (.l4 (i64.wrap (x1+1))))
def zzL(c:za)(p:Int)(k:Int):Tree zwB zyF:=.g (zN p c.partitions.length) <| .g (zN k ((zb c.partitions p.toNat).regions).length) <| .c (!(zaZ ((zh ((zb c.partitions p.toNat).regions) k.toNat).page) 0 255)) (.r (⟨409,(zdG p k)⟩:zx)) (.c (!(zaZ ((zh ((zb c.partitions p.toNat).regions) k.toNat).pages) 1 (i64.wrap (256-(zh ((zb c.partitions p.toNat).regions) k.toNat).page)))) (.r (⟨409,(zdG p k)⟩:zx)) (.c (decide (((zh ((zb c.partitions p.toNat).regions) k.toNat).frame:Int)<0)) (.r (⟨409,(zdG p k)⟩:zx)) (.c (decide (((zh ((zb c.partitions p.toNat).regions) k.toNat).pages:Int)>(i64.wrap (c.frames-(zh ((zb c.partitions p.toNat).regions) k.toNat).frame)))) (.r (⟨409,(zdG p k)⟩:zx)) (.c (!(zaZ ((zh ((zb c.partitions p.toNat).regions) k.toNat).rights) 1 7)) (.r (⟨409,(zdG p k)⟩:zx)) (.g (zN p c.partitions.length) <| .g (inS 0 k ((zb c.partitions p.toNat).regions).length) <| .j (.l0 0))))))
def zdh(c:za)(p:Int)(k:Int):zwB->Option zyF:=zan (zf3 c p k)
theorem zee(c:za)(p:Int)(k:Int)(l:zwB):zdh c p k l=(zf3 c p k l).run (zdh c p k):=zF _ l
def zqO(c:za)(p:Int)(k:Int):Option zyF:=(zzL c p k).run (zdh c p k)
theorem zH3(c:za)(p:Int)(k:Int):Oks 152 [.agg (Ty.enc .sConfig c),(zg p),(zg k)] [] (zqO c p k) zPu:=zM GC0 (H:=H152) zJ Tryz.func152 rfl (by kernel_rfl) (zOw c p k) (fun J l=>by cases l <;> kernel_rfl) (fun J=>by kernel_rfl)
abbrev zyL:=(List (List Int)) × Bool
def zPN(r:zyL):Ans:=⟨.tup [.own 0,(avB r.2)],[.arr 53 (.sl (.i .u32)) r.1]⟩
inductive zwK where | l0 (x0:Int) (x1:List (List Int)) | l27 (x0:Int) (x1:List (List Int))
def H177:zaa:=htt [13] [(0,⟨fgt [1,2,3,4,10,28,29] 75 0,[(.slot 10,.own 53 (.sl (.i .u32)))]⟩),(27,⟨fgt [1,2,3,4,10,28,29] 75 0,[(.slot 10,.own 53 (.sl (.i .u32)))]⟩)] [(.slot 0,.own 53 (.sl (.i .u32)))]
def zOF(f:zy)(l_1:(List Int))(first:Int)(many:Int):zwK->Nat × St | .l0 x0 x1=>(0,⟨mkE [(1,.sl (.i .u32) l_1),(2,(zr first)),(3,(zr many)),(4,.ref 0 0),(10,.own 1),(28,(zg f.depth)),(29,(zg x0))] 75 0,[.cells 299 [(zg f.words),(zg f.depth)],.arr 53 (.sl (.i .u32)) x1],GL,0,[],zO⟩) | .l27 x0 x1=>(27,⟨mkE [(1,.sl (.i .u32) l_1),(2,(zr first)),(3,(zr many)),(4,.ref 0 0),(10,.own 1),(28,(zg f.depth)),(29,(zg x0))] 75 0,[.cells 299 [(zg f.words),(zg f.depth)],.arr 53 (.sl (.i .u32)) x1],GL,0,[],zO⟩)
def zlQ(f:zy)(l_1:(List Int))(first:Int)(many:Int):zwK->Tree zwK zyL | .l0 x0 x1 =>let y1:=dv .rem .i64 (i64.wrap ((i64.wrap first)+x0)) f.depth;let y2:=i64.wrap ((i64.wrap (y1+1))*(zmM f));let y3:=i64.wrap (y1*(zmM f));let y4:=(x1:List (List Int));.c (decide (x0<f.depth)) (.c (decide ((f.depth:Int)=0)) (.n) (.g (inS y3 y2 l_1.length) <| .b (znh ((l_1.take y2.toNat).drop y3.toNat)) fun r2=>.c (!r2.2) (.r ([],false)) (.c (!((decide ((r2.1.length:Int)>0))==(decide (x0<(i64.wrap many))))) (.r ([],false)) (.c (decide ((r2.1.length:Int)>0)) (.g (leB ((y4.length+([r2.1]:List (List Int)).length)*24) 140737488355328) <| .j (.l27 x0 (y4++[r2.1]))) (.j (.l27 x0 x1)))))) (.r (x1,true)) | .l27 x0 x1=>.j (.l0 (i64.wrap (x0+1)) x1)
def zzS(f:zy)(l_1:(List Int))(first:Int)(many:Int):Tree zwK zyL:=.c (decide ((many:Int)>(u32.wrap f.depth))) (.r ([],false)) (.c (decide ((first:Int)>=(u32.wrap f.depth))) (.r ([],false)) (.j (.l0 0 [])))
def zgA(f:zy)(l_1:(List Int))(first:Int)(many:Int):zwK->Option zyL:=zan (zlQ f l_1 first many)
theorem zkd(f:zy)(l_1:(List Int))(first:Int)(many:Int)(l:zwK):zgA f l_1 first many l=(zlQ f l_1 first many l).run (zgA f l_1 first many):=zF _ l
def zid(f:zy)(l_1:(List Int))(first:Int)(many:Int):Option zyL:=(zzS f l_1 first many).run (zgA f l_1 first many)
theorem zIs(f:zy)(l_1:(List Int))(first:Int)(many:Int):Oks 177 [.agg [(zg f.words),(zg f.depth)],.sl (.i .u32) l_1,(zr first),(zr many)] [] (zid f l_1 first many) zPN:=zM GC0 (H:=H177) zJ Tryz.func177 rfl (by kernel_rfl) (zOF f l_1 first many) (fun J l=>by cases l <;> kernel_rfl) (fun J=>by kernel_rfl)
abbrev R7:=Bool
def to7(r:R7):Ans:=⟨(avB r),[]⟩
inductive L7 where | l0 (x0:Int) (x1:Int) | l4 (x0:Int) (x1:Int)
def H7:zaa:=htt [] [(0,⟨fgt [1,3,4] 57 0,[]⟩),(4,⟨fgt [1,3,5] 57 0,[]⟩)] []
def st7(x:zo):L7->Nat × St | .l0 x0 x1=>(0,⟨mkE [(1,.ref 0 0),(3,(zg x0)),(4,(zg x1))] 57 0,[.cells 30 (Ty.enc .sBulkheadlaw25Start x)],GL,0,[],zO⟩) | .l4 x0 x1=>(4,⟨mkE [(1,.ref 0 0),(3,(zg x0)),(5,(zg x1))] 57 0,[.cells 30 (Ty.enc .sBulkheadlaw25Start x)],GL,0,[],zO⟩)
def zw9(x:zo):L7->Tree L7 R7 | .l0 x0 x1=>.c (decide (x1<x.programs.length)) (.c (decide (x0<=2147483647)) (.g (zN x1 x.programs.length) <| .j (.l0 (i64.wrap (x0+(zW x.programs x1.toNat).length)) (i64.wrap (x1+1)))) (.j (.l4 x0 0))) (.j (.l4 x0 0)) | .l4 x0 x1 =>let y1:=decide (x0>2147483647);.c (decide (x1<x.feeds.length)) (.c (decide (x0<=2147483647)) (.g (zN x1 x.feeds.length) <| .j (.l4 (i64.wrap (x0+((zA x.feeds x1.toNat).words).length)) (i64.wrap (x1+1)))) (.r y1)) (.r y1)
def ent7(x:zo):Tree L7 R7:=.b (zBH x.config) fun r1=>.c r1 (.r true) (.j (.l0 (i64.wrap (x.programs.length+x.feeds.length)) 0))
def zBG(x:zo):L7->Option R7:=zan (zw9 x)
theorem zlF(x:zo)(l:L7):zBG x l=(zw9 x l).run (zBG x):=zF _ l
def zDM(x:zo):Option R7:=(ent7 x).run (zBG x)
theorem oks7(x:zo):Oks 7 [.agg (Ty.enc .sBulkheadlaw25Start x)] [] (zDM x) to7:=zM GC0 (H:=H7) zJ Tryz.func7 rfl (by kernel_rfl) (st7 x) (fun J l=>by cases l <;> kernel_rfl) (fun J=>by kernel_rfl)
abbrev zyy:=Bool
def zPh(r:zyy):Ans:=⟨(avB r),[]⟩
inductive zwu where | l0 (x0:Int)
def H137:zaa:=htt [] [(0,⟨fgt [1,3] 39 0,[]⟩)] []
def zOp(p:zf):zwu->Nat × St | .l0 x0=>(0,⟨mkE [(1,.ref 0 0),(3,(zg x0))] 39 0,[.cells 72 (Ty.enc .sPartition p)],GL,0,[],zO⟩)
def zpK(p:zf):zwu->Tree zwu zyy | .l0 x0 =>let y1:=zh p.regions x0.toNat;let y2:=i64.wrap (x0+1);.c (decide (x0<p.regions.length)) (.g (zN x0 p.regions.length) <| .c (zaP (bop .quo .i64 p.entry 16) (y1.page) (i64.wrap ((i64.wrap (y1.page+y1.pages))-1))) (.c (!(((bop .and .i64 (y1.rights) 4):Int)==0)) (.r true) (.j (.l0 y2))) (.j (.l0 y2))) (.r false)
def zzH(p:zf):Tree zwu zyy:=.c (!(zaP p.entry 0 4095)) (.r false) (.j (.l0 0))
def zmR(p:zf):zwu->Option zyy:=zan (zpK p)
theorem zoZ(p:zf)(l:zwu):zmR p l=(zpK p l).run (zmR p):=zF _ l
def zm9(p:zf):Option zyy:=(zzH p).run (zmR p)
theorem zHO(p:zf):Oks 137 [.agg (Ty.enc .sPartition p)] [] (zm9 p) zPh:=zM GC0 (H:=H137) zJ Tryz.func137 rfl (by kernel_rfl) (zOp p) (fun J l=>by cases l <;> kernel_rfl) (fun J=>by kernel_rfl)
abbrev R160:=Bool
def zPC(r:R160):Ans:=⟨(avB r),[]⟩
def zsf(c:za)(g:Region):R160:=Tree.val (L:=Empty) <|
 .c (!(zaP g.page 0 255))
 (.r false)
 (.c (!(zaP g.pages 1 (i64.wrap (256-g.page))))
 (.r false)
 (.c (decide ((g.frame:Int)>=0))
 (.c (decide ((g.pages:Int)<=(i64.wrap (c.frames-g.frame))))
 (.r (zaP g.rights 1 7))
 (.r false))
 (.r false)))
theorem zIb(c:za)(g:Region):Oks 160 [.agg (Ty.enc .sConfig c),.agg (Ty.enc .sRegion g)] [] (some (zsf c g)) zPC:=zbt GC0 (H:=H0) zJ Tryz.func160 rfl (by kernel_rfl) rfl (fun J=>by kernel_rfl)
abbrev zyw:=Bool
def zPf(r:zyw):Ans:=⟨(avB r),[]⟩
inductive zws where | l0 (x0:Int)
def H135:zaa:=htt [] [(0,⟨fgt [1,2,5] 31 0,[]⟩)] []
def zOn(c:za)(p:Int):zws->Nat × St | .l0 x0=>(0,⟨mkE [(1,(zg p)),(2,.ref 0 0),(5,(zg x0))] 31 0,[.cells 26 (Ty.enc .sConfig c)],GL,0,[],zO⟩)
def zpJ(c:za)(p:Int):zws->Tree zws zyw | .l0 x0 =>let y1:=(zb c.partitions p.toNat).name;let y2:=zN p c.partitions.length;.c (decide (x0<p)) (.g (zN x0 c.partitions.length) <| .g y2 <| .c (((zb c.partitions x0.toNat).name).toList==y1.toList) (.r false) (.j (.l0 (i64.wrap (x0+1))))) (.g y2 <| .b (zqQ y1) fun r1=>.r r1)
def zGN(c:za)(p:Int):Tree zws zyw:=.j (.l0 0)
def zqv(c:za)(p:Int):zws->Option zyw:=zan (zpJ c p)
theorem zoY(c:za)(p:Int)(l:zws):zqv c p l=(zpJ c p l).run (zqv c p):=zF _ l
def zqK(c:za)(p:Int):Option zyw:=(zGN c p).run (zqv c p)
theorem zHM(c:za)(p:Int):Oks 135 [.agg (Ty.enc .sConfig c),(zg p)] [] (zqK c p) zPf:=zM GC0 (H:=H135) zJ Tryz.func135 rfl (by kernel_rfl) (zOn c p) (fun J l=>by cases l <;> kernel_rfl) (fun J=>by kernel_rfl)
abbrev R31:=ze × Int
def to31(r:R31):Ans:=⟨.tup [.ref 0 0,(zg r.2)],[.cells 112 [.own 1],.arr 46 (.i .u32) r.1.words]⟩
def H31:zaa:=⟨fun _=>false,fun _=>⟨[],[]⟩,[(.slot 0,.fnc)],G0,zO⟩
def znq(words:(List Int)):Option R31:=Tree.run0 <|
 .c (decide ((words.length:Int)>16384))
 (.n)
 (.c ((words.length:Int)==0)
 (.n)
 (.c (!(((bop .rem .i64 words.length 16):Int)==0))
 (.n)
 (.b (zgL words) fun r1=>
 .r ((⟨r1⟩:ze),0))))
theorem zM1(words:(List Int)):Oks 31 [.sl (.i .u32) words] [] (znq words) to31:=zL GC0 (H:=H31) zJ Tryz.func31 rfl (by kernel_rfl) (fun J=>by kernel_rfl)
abbrev R80:=Int
def to80(r:R80):Ans:=⟨(zg r),[]⟩
def zBC(h_0:zI):R80:=Tree.val (L:=Empty) <|
 .c (((zqt h_0):Int)==0)
 (.r 0)
 (.c ((h_0.kind:Int)==1)
 (.r (i64.wrap ((zqt h_0)+1)))
 (.r (i64.wrap ((zqt h_0)+2))))
theorem zNL(h_0:zI):Oks 80 [.agg (Ty.enc .sChannel h_0)] [] (some (zBC h_0)) to80:=zbt GC0 (H:=H0) zJ Tryz.func80 rfl (by kernel_rfl) rfl (fun J=>by kernel_rfl)
abbrev zw0:=Int × ze
def zFq(r:zw0):Ans:=⟨(zg r.1),[.cells 112 [.own 1],.arr 46 (.i .u32) r.2.words]⟩
inductive zwL where | l9 (v0:R43) (x0:List Int)
def H179:zaa:=htt [4] [(9,⟨fgt [7] 24 0,[]⟩)] []
def zOG(pl:Int)(words:(List Int))(ws:List Int):zwL->Nat × St | .l9 v0 x0=>(9,⟨mkE [(7,(zg v0))] 24 0,[.cells 112 [.own 1],.arr 46 (.i .u32) x0],GL,2,[],zO⟩)
def zts(pl:Int)(words:(List Int))(ws:List Int):zwL->Tree zwL zw0 | .l9 v0 x0=>.r (v0,(⟨x0⟩:ze))
def zzT(pl:Int)(words:(List Int))(ws:List Int):Tree zwL zw0:=.b (zfo (some (⟨ws⟩:ze)) pl words.length) fun r1=>.c ((r1:Int)==0) (.g (inS pl ws.length ws.length) <| .j (.l9 r1 (zcA ws pl.toNat (List.take ((ws.length:Int).toNat-pl.toNat) (words:List Int))))) (.j (.l9 r1 ws))
def zuf(pl:Int)(words:(List Int))(ws:List Int):zwL->Option zw0:=zan (zts pl words ws)
theorem zx1(pl:Int)(words:(List Int))(ws:List Int)(l:zwL):zuf pl words ws l=(zts pl words ws l).run (zuf pl words ws):=zF _ l
def zeV(pl:Int)(words:(List Int))(ws:List Int):Option zw0:=(zzT pl words ws).run (zuf pl words ws)
theorem zIu(pl:Int)(words:(List Int))(ws:List Int):Oks 179 [.ref 0 0,(zg pl),.sl (.i .u32) words] [.cells 112 [.own 1],.arr 46 (.i .u32) ws] (zeV pl words ws) zFq:=zM GC0 (H:=H179) zJ Tryz.func179 rfl (by kernel_rfl) (zOG pl words ws) (fun J l=>by cases l <;> kernel_rfl) (fun J=>by kernel_rfl)
abbrev R109:=Int
def zOT(r:R109):Ans:=⟨(zg r),[]⟩
def zoT(h_0:zI):R109:=Tree.val (L:=Empty) <|
 .c (((zmL h_0):Int)==0)
 (.r 0)
 (.r (i64.wrap (3+(zmL h_0))))
theorem zHz(h_0:zI):Oks 109 [.agg (Ty.enc .sChannel h_0)] [] (some (zoT h_0)) zOT:=zbt GC0 (H:=H0) zJ Tryz.func109 rfl (by kernel_rfl) rfl (fun J=>by kernel_rfl)
abbrev R162:=Bool
def zPD(r:R162):Ans:=⟨(avB r),[]⟩
def zki(m:(Option ze))(frame:Int):Option R162:=Tree.run0 <|
 .c (decide ((frame:Int)>=0))
 (.b (zdH m) fun r1=>
 .r (decide ((frame:Int)<r1)))
 (.r false)
theorem zId(m:(Option ze))(frame:Int):Oks 162 [.op .sMemMemory m,(zg frame)] [] (zki m frame) zPD:=zL GC0 (H:=H0) zJ Tryz.func162 rfl (by kernel_rfl) (fun J=>by kernel_rfl)
abbrev R118:=zx
def zO2(r:R118):Ans:=⟨.agg [(zg r.e),(zg r.where_.first),(zg r.where_.second)],[]⟩
def zE7(a:za):R118:=(zag (zaZ a.partitions.length 1 8) 403 nowhere)
theorem zAU(a:za):Oks 118 [.op .sConfig (some a)] [] (some (zE7 a)) zO2:=zbh GC0 (H:=H0) zJ Tryz.func118 rfl (by kernel_rfl) (fun J=>by kernel_rfl)
abbrev R88:=Int × zaY
def to88(r:R88):Ans:=⟨.tup [(zg r.1),.agg [(zg r.2.first),(zg r.2.second)]],[]⟩
inductive L88 where | l0 (x0:Int) (x1:Int)
def H88:zaa:=htt [] [(0,⟨fgt [1,2,5,6,7] 84 0,[]⟩)] []
def st88(c:za)(i:Int):L88->Nat × St | .l0 x0 x1=>(0,⟨mkE [(1,(zg i)),(2,.ref 0 0),(5,.ref 1 0),(6,(zg x0)),(7,(zg x1))] 84 0,[.cells 26 (Ty.enc .sConfig c),.cells 144 [(zg 0),(zg 0)]],GL,0,[],zO⟩)
def zuP(c:za)(i:Int):L88->Tree L88 R88 | .l0 x0 x1 =>let y2:=(⟨i,x1⟩:zaY);let y3:=zD c.cores i.toNat;let y1:=zbz y3 x1.toNat;let y4:=zN i c.cores.length;.g y4 <| .c (decide (x1<y3.length)) (.g y4 <| .g (zN x1 y3.length) <| .c (!(zaP (y1.partition) (-1) (i64.wrap (c.partitions.length-1)))) (.r (419,y2)) (.c (!(zaP (y1.usable) 1 16384)) (.r (419,y2)) (.c (!(zaP (y1.slack) 82 16384)) (.r (420,y2)) (.b (zqM c i (y1.partition)) fun r1=>.c r1 (.r (422,y2)) (.j (.l0 (i64.wrap (x0+(i64.wrap (y1.usable+y1.slack)))) (i64.wrap (x1+1)))))))) (.c (!(x0==c.major)) (.r (421,(zlp i))) (.r (0,(⟨0,0⟩:zaY))))
def zEK(c:za)(i:Int):Tree L88 R88:=.g (zN i c.cores.length) <| .c (!(zaP ((zD c.cores i.toNat).length) 1 16)) (.r (418,(zlp i))) (.j (.l0 0 0))
def zvI(c:za)(i:Int):L88->Option R88:=zan (zuP c i)
theorem zsE(c:za)(i:Int)(l:L88):zvI c i l=(zuP c i l).run (zvI c i):=zF _ l
def zvX(c:za)(i:Int):Option R88:=(zEK c i).run (zvI c i)
theorem zNT(c:za)(i:Int):Oks 88 [.agg (Ty.enc .sConfig c),(zg i)] [] (zvX c i) to88:=zM GC0 (H:=H88) zJ Tryz.func88 rfl (by kernel_rfl) (st88 c i) (fun J l=>by cases l <;> kernel_rfl) (fun J=>by kernel_rfl)
abbrev R39:=Bool
def to39(r:R39):Ans:=⟨(avB r),[]⟩
def zns(c:za)(o:zp)(told:Int)(at_3:Int)(own:zbx):Option R39:=Tree.run0 <|
 .c (!((told:Int)==0))
 (.r false)
 (.c ((o.call:Int)==0)
 (.c ((own.kind:Int)==5)
 (.r ((own.index:Int)==o.p))
 (.r false))
 (.c ((o.call:Int)==7)
 (.c ((own.kind:Int)==5)
 (.r ((own.index:Int)==o.p))
 (.r false))
 (.c ((o.call:Int)==5)
 (.c ((own.kind:Int)==5)
 (.r ((own.index:Int)==o.p))
 (.r false))
 (.c ((o.call:Int)==1)
 (.c ((own.kind:Int)==7)
 (.b (zvS c o.p own.index true) fun r1=>
 .r r1)
 (.r false))
 (.c ((o.call:Int)==2)
 (.c ((own.kind:Int)==1)
 (.c ((own.index:Int)==o.p)
 (.b (zvT c o.p at_3) fun r2=>
 .r (((bop .rem .i64 (bop .quo .i64 r2 2) 2):Int)==1))
 (.r false))
 (.c ((own.kind:Int)==8)
 (.r ((own.index:Int)==o.p))
 (.r false)))
 (.r false))))))
theorem zM9(c:za)(o:zp)(told:Int)(at_3:Int)(own:zbx):Oks 39 [.agg (Ty.enc .sConfig c),.agg (Ty.enc .sBulkheadlaw25Op o),(zr told),(zg at_3),.agg (Ty.enc .sOwner own)] [] (zns c o told at_3 own) to39:=zL GC0 (H:=H0) zJ Tryz.func39 rfl (by kernel_rfl) (fun J=>by kernel_rfl)
abbrev R86:=Int
def to86(r:R86):Ans:=⟨(zg r),[]⟩
def zvW(c:za)(h_1:Int):Option R86:=Tree.run0 <|
 .g (zN h_1 c.channels.length) <|
 .c (!(((zu c.channels h_1.toNat).kind:Int)==2))
 (.c (!(((zu c.channels h_1.toNat).kind:Int)==1))
 (.r 415)
 (.c (!(zaP ((zu c.channels h_1.toNat).words) 1 16))
 (.r 415)
 (.c (((zu c.channels h_1.toNat).kind:Int)==2)
 (.c (!(zaP ((zu c.channels h_1.toNat).depth) 1 8))
 (.r 415)
 (.c (!(((zu c.channels h_1.toNat).kind:Int)==2))
 (.c (!(((zu c.channels h_1.toNat).depth:Int)==0))
 (.r 415)
 (.b (zew c h_1) fun r1=>
 .c (!((r1.1:Int)==1))
 (.r 416)
 (.c (((zu c.channels h_1.toNat).kind:Int)==2)
 (.c (!((r1.2:Int)==1))
 (.r 417)
 (.c (!(((zu c.channels h_1.toNat).kind:Int)==2))
 (.c (!(zaP r1.2 1 4))
 (.r 417)
 (.r 0))
 (.r 0)))
 (.c (!(((zu c.channels h_1.toNat).kind:Int)==2))
 (.c (!(zaP r1.2 1 4))
 (.r 417)
 (.r 0))
 (.r 0)))))
 (.b (zew c h_1) fun r2=>
 .c (!((r2.1:Int)==1))
 (.r 416)
 (.c (((zu c.channels h_1.toNat).kind:Int)==2)
 (.c (!((r2.2:Int)==1))
 (.r 417)
 (.c (!(((zu c.channels h_1.toNat).kind:Int)==2))
 (.c (!(zaP r2.2 1 4))
 (.r 417)
 (.r 0))
 (.r 0)))
 (.c (!(((zu c.channels h_1.toNat).kind:Int)==2))
 (.c (!(zaP r2.2 1 4))
 (.r 417)
 (.r 0))
 (.r 0))))))
 (.c (!(((zu c.channels h_1.toNat).kind:Int)==2))
 (.c (!(((zu c.channels h_1.toNat).depth:Int)==0))
 (.r 415)
 (.b (zew c h_1) fun r3=>
 .c (!((r3.1:Int)==1))
 (.r 416)
 (.c (((zu c.channels h_1.toNat).kind:Int)==2)
 (.c (!((r3.2:Int)==1))
 (.r 417)
 (.c (!(((zu c.channels h_1.toNat).kind:Int)==2))
 (.c (!(zaP r3.2 1 4))
 (.r 417)
 (.r 0))
 (.r 0)))
 (.c (!(((zu c.channels h_1.toNat).kind:Int)==2))
 (.c (!(zaP r3.2 1 4))
 (.r 417)
 (.r 0))
 (.r 0)))))
 (.b (zew c h_1) fun r4=>
 .c (!((r4.1:Int)==1))
 (.r 416)
 (.c (((zu c.channels h_1.toNat).kind:Int)==2)
 (.c (!((r4.2:Int)==1))
 (.r 417)
 (.c (!(((zu c.channels h_1.toNat).kind:Int)==2))
 (.c (!(zaP r4.2 1 4))
 (.r 417)
 (.r 0))
 (.r 0)))
 (.c (!(((zu c.channels h_1.toNat).kind:Int)==2))
 (.c (!(zaP r4.2 1 4))
 (.r 417)
 (.r 0))
 (.r 0))))))))
 (.c (!(zaP ((zu c.channels h_1.toNat).words) 1 16))
 (.r 415)
 (.c (((zu c.channels h_1.toNat).kind:Int)==2)
 (.c (!(zaP ((zu c.channels h_1.toNat).depth) 1 8))
 (.r 415)
 (.c (!(((zu c.channels h_1.toNat).kind:Int)==2))
 (.c (!(((zu c.channels h_1.toNat).depth:Int)==0))
 (.r 415)
 (.b (zew c h_1) fun r5=>
 .c (!((r5.1:Int)==1))
 (.r 416)
 (.c (((zu c.channels h_1.toNat).kind:Int)==2)
 (.c (!((r5.2:Int)==1))
 (.r 417)
 (.c (!(((zu c.channels h_1.toNat).kind:Int)==2))
 (.c (!(zaP r5.2 1 4))
 (.r 417)
 (.r 0))
 (.r 0)))
 (.c (!(((zu c.channels h_1.toNat).kind:Int)==2))
 (.c (!(zaP r5.2 1 4))
 (.r 417)
 (.r 0))
 (.r 0)))))
 (.b (zew c h_1) fun r6=>
 .c (!((r6.1:Int)==1))
 (.r 416)
 (.c (((zu c.channels h_1.toNat).kind:Int)==2)
 (.c (!((r6.2:Int)==1))
 (.r 417)
 (.c (!(((zu c.channels h_1.toNat).kind:Int)==2))
 (.c (!(zaP r6.2 1 4))
 (.r 417)
 (.r 0))
 (.r 0)))
 (.c (!(((zu c.channels h_1.toNat).kind:Int)==2))
 (.c (!(zaP r6.2 1 4))
 (.r 417)
 (.r 0))
 (.r 0))))))
 (.c (!(((zu c.channels h_1.toNat).kind:Int)==2))
 (.c (!(((zu c.channels h_1.toNat).depth:Int)==0))
 (.r 415)
 (.b (zew c h_1) fun r7=>
 .c (!((r7.1:Int)==1))
 (.r 416)
 (.c (((zu c.channels h_1.toNat).kind:Int)==2)
 (.c (!((r7.2:Int)==1))
 (.r 417)
 (.c (!(((zu c.channels h_1.toNat).kind:Int)==2))
 (.c (!(zaP r7.2 1 4))
 (.r 417)
 (.r 0))
 (.r 0)))
 (.c (!(((zu c.channels h_1.toNat).kind:Int)==2))
 (.c (!(zaP r7.2 1 4))
 (.r 417)
 (.r 0))
 (.r 0)))))
 (.b (zew c h_1) fun r8=>
 .c (!((r8.1:Int)==1))
 (.r 416)
 (.c (((zu c.channels h_1.toNat).kind:Int)==2)
 (.c (!((r8.2:Int)==1))
 (.r 417)
 (.c (!(((zu c.channels h_1.toNat).kind:Int)==2))
 (.c (!(zaP r8.2 1 4))
 (.r 417)
 (.r 0))
 (.r 0)))
 (.c (!(((zu c.channels h_1.toNat).kind:Int)==2))
 (.c (!(zaP r8.2 1 4))
 (.r 417)
 (.r 0))
 (.r 0)))))))
theorem zNR(c:za)(h_1:Int):Oks 86 [.agg (Ty.enc .sConfig c),(zg h_1)] [] (zvW c h_1) to86:=zL GC0 (H:=H0) zJ Tryz.func86 rfl (by kernel_rfl) (fun J=>by kernel_rfl)
abbrev zys:=zx
def zO8(r:zys):Ans:=⟨.agg [(zg r.e),(zg r.where_.first),(zg r.where_.second)],[]⟩
inductive zwo where | l11 (x0:Bool) (x1:Int)
def H123:zaa:=htt [5] [(11,⟨fgt [1,2,4,5,6,7] 57 0,[]⟩)] []
def zOj(c:za)(h_1:Int):zwo->Nat × St | .l11 x0 x1=>(11,⟨mkE [(1,(zg h_1)),(2,.ref 0 0),(4,.ref 1 0),(5,.ref 2 0),(6,(avB x0)),(7,(zg x1))] 57 0,[.cells 26 (Ty.enc .sConfig c),.cells 194 [(zg 0),(zg 0),(zg 0)],.cells 76 (Ty.enc .sChannel (zu c.channels h_1.toNat))],GL,0,[],zO⟩)
def zto(c:za)(h_1:Int):zwo->Tree zwo zys | .l11 x0 x1 =>let y1:=za2 h_1;let y2:=zu c.channels h_1.toNat;let y3:=zag false 415 y1;.b (zqP c h_1) fun r1=>.c (zaZ (y2.kind) 1 2) (.c (zaZ (y2.words) 1 16) (.b (zbv [(zag x0 415 y1),(zag ((r1.1:Int)==1) 416 y1),(zag (zaZ r1.2 1 x1) 417 y1)]) fun r2=>.r r2) (.b (zbv [y3,(zag ((r1.1:Int)==1) 416 y1),(zag (zaZ r1.2 1 x1) 417 y1)]) fun r3=>.r r3)) (.b (zbv [y3,(zag ((r1.1:Int)==1) 416 y1),(zag (zaZ r1.2 1 x1) 417 y1)]) fun r4=>.r r4)
def zzC(c:za)(h_1:Int):Tree zwo zys:=.g (zN h_1 c.channels.length) <| .c (((zu c.channels h_1.toNat).kind:Int)==2) (.j (.l11 (zaZ ((zu c.channels h_1.toNat).depth) 1 8) 1)) (.j (.l11 (((zu c.channels h_1.toNat).depth:Int)==0) 4))
def zka(c:za)(h_1:Int):zwo->Option zys:=zan (zto c h_1)
theorem zxX(c:za)(h_1:Int)(l:zwo):zka c h_1 l=(zto c h_1 l).run (zka c h_1):=zF _ l
def zqG(c:za)(h_1:Int):Option zys:=(zzC c h_1).run (zka c h_1)
theorem zHG(c:za)(h_1:Int):Oks 123 [.agg (Ty.enc .sConfig c),(zg h_1)] [] (zqG c h_1) zO8:=zM GC0 (H:=H123) zJ Tryz.func123 rfl (by kernel_rfl) (zOj c h_1) (fun J l=>by cases l <;> kernel_rfl) (fun J=>by kernel_rfl)
abbrev R83:=Int
def to83(r:R83):Ans:=⟨(zg r),[]⟩
def zxR(c:za):R83:=Tree.val (L:=Empty) <|
 .c (!(zaP c.frames 1 1024))
 (.r 400)
 (.c (!(zaP c.major 1 16384))
 (.r 401)
 (.c (!(zaP c.cores.length 1 4))
 (.r 402)
 (.c (!(zaP c.partitions.length 1 8))
 (.r 403)
 (.c (decide ((c.channels.length:Int)>16))
 (.r 404)
 (.r 0)))))
theorem zNO(c:za):Oks 83 [.agg (Ty.enc .sConfig c)] [] (some (zxR c)) to83:=zbt GC0 (H:=H0) zJ Tryz.func83 rfl (by kernel_rfl) rfl (fun J=>by kernel_rfl)
abbrev R230:=(List Int) × Bool
def zP0(r:R230):Ans:=⟨.tup [.own 0,(avB r.2)],[.arr 46 (.i .u32) r.1]⟩
def H230:zaa:=⟨fun _=>false,fun _=>⟨[],[]⟩,[(.slot 0,.own 46 (.i .u32))],G0,zO⟩
def znm(l_0:(List Int))(head:Int):Option R230:=Tree.run0 <|
 .b (zuj l_0) fun r1=>
 .c r1
 (.r ([],true))
 (.g (zN 0 l_0.length) <|
 .c (!((zw l_0 0:Int)==1))
 (.r ([],false))
 (.c ((head:Int)==3)
 (.g (zN 1 l_0.length) <|
 .c (decide ((zw l_0 1:Int)>1))
 (.r ([],false))
 (.b (zno l_0 head) fun r2=>
 .r (r2.1,r2.2)))
 (.b (zno l_0 head) fun r3=>
 .r (r3.1,r3.2))))
theorem zIX(l_0:(List Int))(head:Int):Oks 230 [.sl (.i .u32) l_0,(zg head)] [] (znm l_0 head) zP0:=zL GC0 (H:=H230) zJ Tryz.func230 rfl (by kernel_rfl) (fun J=>by kernel_rfl)
abbrev R44:=Int × Int × Bool
def to44(r:R44):Ans:=⟨.tup [(zg r.1),(zg r.2.1),(avB r.2.2)],[]⟩
def znt(d:(Option zH))(p:Int)(port:Int):Option R44:=Tree.run0 <|
 .b (zhE d p port) fun r1=>
 .c (!r1.2)
 (.r (0,0,false))
 (.g d.isSome <|
 .g (zN r1.1.channel ((d.getD default).lay.channels).length) <|
 .r (r1.1.channel,(zG ((d.getD default).lay.channels) r1.1.channel.toNat).lock,true))
theorem zNb(d:(Option zH))(p:Int)(port:Int):Oks 44 [.op .sDuctDucts d,(zg p),(zg port)] [] (znt d p port) to44:=zL GC0 (H:=H0) zJ Tryz.func44 rfl (by kernel_rfl) (fun J=>by kernel_rfl)
abbrev R59:=Int
def to59(r:R59):Ans:=⟨(zg r),[]⟩
def zld(d:(Option zH))(m:(Option ze)):Option R59:=Tree.run0 <|
 .c d.isNone
 (.r 3)
 (.c m.isNone
 (.r 3)
 (.b (zdH m) fun r1=>
 .g d.isSome <|
 .c (!((r1:Int)==(d.getD default).c.frames))
 (.r 210)
 (.r 0)))
theorem zNq(d:(Option zH))(m:(Option ze)):Oks 59 [.op .sDuctDucts d,.op .sMemMemory m] [] (zld d m) to59:=zL GC0 (H:=H0) zJ Tryz.func59 rfl (by kernel_rfl) (fun J=>by kernel_rfl)
abbrev R111:=Int
def zOV(r:R111):Ans:=⟨(zg r),[]⟩
def zoU(h_0:zI):R111:=Tree.val (L:=Empty) <|
 .c (((zmL h_0):Int)==0)
 (.r 0)
 (.c ((h_0.kind:Int)==1)
 (.r (i64.wrap (2+h_0.words)))
 (.r (i64.wrap (1+(zmL h_0)))))
theorem zHB(h_0:zI):Oks 111 [.agg (Ty.enc .sChannel h_0)] [] (some (zoU h_0)) zOV:=zbt GC0 (H:=H0) zJ Tryz.func111 rfl (by kernel_rfl) rfl (fun J=>by kernel_rfl)
abbrev zwW:=Int × ze
def zFd(r:zwW):Ans:=⟨(zg r.1),[.cells 112 [.own 1],.arr 46 (.i .u32) r.2.words]⟩
inductive zwj where | l9 (v0:R43) (x0:List Int)
def H103:zaa:=htt [4] [(9,⟨fgt [7] 21 0,[]⟩)] []
def zOe(pl:Int)(word:Int)(ws:List Int):zwj->Nat × St | .l9 v0 x0=>(9,⟨mkE [(7,(zg v0))] 21 0,[.cells 112 [.own 1],.arr 46 (.i .u32) x0],GL,2,[],zO⟩)
def ztn(pl:Int)(word:Int)(ws:List Int):zwj->Tree zwj zwW | .l9 v0 x0=>.r (v0,(⟨x0⟩:ze))
def zzz(pl:Int)(word:Int)(ws:List Int):Tree zwj zwW:=.b (zfo (some (⟨ws⟩:ze)) pl 1) fun r1=>.c ((r1:Int)==0) (.g (zN pl ws.length) <| .j (.l9 r1 (List.set ws pl.toNat word))) (.j (.l9 r1 ws))
def zuc(pl:Int)(word:Int)(ws:List Int):zwj->Option zwW:=zan (ztn pl word ws)
theorem zxW(pl:Int)(word:Int)(ws:List Int)(l:zwj):zuc pl word ws l=(ztn pl word ws l).run (zuc pl word ws):=zF _ l
def zdN(pl:Int)(word:Int)(ws:List Int):Option zwW:=(zzz pl word ws).run (zuc pl word ws)
theorem zHt(pl:Int)(word:Int)(ws:List Int):Oks 103 [.ref 0 0,(zg pl),(zr word)] [.cells 112 [.own 1],.arr 46 (.i .u32) ws] (zdN pl word ws) zFd:=zM GC0 (H:=H103) zJ Tryz.func103 rfl (by kernel_rfl) (zOe pl word ws) (fun J l=>by cases l <;> kernel_rfl) (fun J=>by kernel_rfl)
abbrev R11:=(List Int)
def to11(r:R11):Ans:=⟨.own 0,[.arr 46 (.i .u32) r]⟩
def H11:zaa:=⟨fun _=>false,fun _=>⟨[],[]⟩,[(.slot 0,.own 46 (.i .u32))],G0,zO⟩
def zsJ(m:(Option ze)):Option R11:=Tree.run0 <|
 .c m.isNone
 (.r [])
 (.g m.isSome <|
 .b (zgL ((m.getD default).words)) fun r1=>
 .r r1)
theorem zMM(m:(Option ze)):Oks 11 [.op .sMemMemory m] [] (zsJ m) to11:=zL GC0 (H:=H11) zJ Tryz.func11 rfl (by kernel_rfl) (fun J=>by kernel_rfl)
abbrev R116:=zx
def zO0(r:R116):Ans:=⟨.agg [(zg r.e),(zg r.where_.first),(zg r.where_.second)],[]⟩
def zE5(a:za):R116:=(zag (zaZ a.major 1 16384) 401 nowhere)
theorem zAS(a:za):Oks 116 [.op .sConfig (some a)] [] (some (zE5 a)) zO0:=zbh GC0 (H:=H0) zJ Tryz.func116 rfl (by kernel_rfl) (fun J=>by kernel_rfl)
abbrev R76:=Bool
def to76(r:R76):Ans:=⟨(avB r),[]⟩
inductive L76 where | l0 (x0:Int) | l4 (x0:Int)
def H76:zaa:=htt [] [(0,⟨fgt [1,30,31,32] 82 0,[]⟩),(4,⟨fgt [1,42,43,44] 82 0,[]⟩)] []
def st76(c:za):L76->Nat × St | .l0 x0=>(0,⟨mkE [(1,.ref 0 0),(30,.sl .sPartition c.partitions),(31,(zg c.partitions.length)),(32,(zg x0))] 82 0,[.cells 26 (Ty.enc .sConfig c)],GL,0,[],zO⟩) | .l4 x0=>(4,⟨mkE [(1,.ref 0 0),(42,.sl .sChannel c.channels),(43,(zg c.channels.length)),(44,(zg x0))] 82 0,[.cells 26 (Ty.enc .sConfig c)],GL,0,[],zO⟩)
def zn8(c:za):L76->Tree L76 R76 | .l0 x0=>.c (decide (x0<c.partitions.length)) (.g (zN x0 c.partitions.length) <| .b (zm8 c (zb c.partitions x0.toNat)) fun r1=>.c (!r1) (.r false) (.j (.l0 (i64.wrap (x0+1))))) (.j (.l4 0)) | .l4 x0 =>let y1:=zu c.channels x0.toNat;let y2:=i64.wrap (x0+1);.c (decide (x0<c.channels.length)) (.g (zN x0 c.channels.length) <| .b (zpi c x0) fun r2=>.c (((zqt y1):Int)==0) (.r false) (.c ((y1.kind:Int)==1) (.c (!((y1.depth:Int)==0)) (.r false) (.c (!((r2.1.length:Int)==1)) (.r false) (.c (decide ((r2.2.length:Int)<1)) (.r false) (.c (decide ((r2.2.length:Int)>4)) (.r false) (.j (.l4 y2)))))) (.c (!((r2.1.length:Int)==1)) (.r false) (.c (decide ((r2.2.length:Int)<1)) (.r false) (.c (decide ((r2.2.length:Int)>4)) (.r false) (.j (.l4 y2))))))) (.r true)
def zEI(c:za):Tree L76 R76:=.c (decide ((c.kernel:Int)<0)) (.r false) (.c (decide ((c.kernel:Int)>=1024)) (.r false) (.c (decide ((c.partitions.length:Int)>8)) (.r false) (.c (decide ((c.channels.length:Int)>16)) (.r false) (.j (.l0 0)))))
def zsD(c:za):L76->Option R76:=zan (zn8 c)
theorem zje(c:za)(l:L76):zsD c l=(zn8 c l).run (zsD c):=zF _ l
def zsW(c:za):Option R76:=(zEI c).run (zsD c)
theorem zNH(c:za):Oks 76 [.agg (Ty.enc .sConfig c)] [] (zsW c) to76:=zM GC0 (H:=H76) zJ Tryz.func76 rfl (by kernel_rfl) (st76 c) (fun J l=>by cases l <;> kernel_rfl) (fun J=>by kernel_rfl)
abbrev zyt:=zx
def zPa(r:zyt):Ans:=⟨.agg [(zg r.e),(zg r.where_.first),(zg r.where_.second)],[]⟩
inductive zwp where | l0 (x0:Int) (x1:Int)
def H125:zaa:=htt [] [(0,⟨fgt [1,2,4,5,24,25,26] 85 0,[]⟩)] []
def zOk(c:za)(k:Int):zwp->Nat × St | .l0 x0 x1=>(0,⟨mkE [(1,(zg k)),(2,.ref 0 0),(4,.ref 1 0),(5,(zg x0)),(24,.sl .sWindow (zD c.cores k.toNat)),(25,(zg ((zD c.cores k.toNat).length))),(26,(zg x1))] 85 0,[.cells 26 (Ty.enc .sConfig c),.cells 194 [(zg 0),(zg 0),(zg 0)]],GL,0,[],zO⟩)
def zpI(c:za)(k:Int):zwp->Tree zwp zyt | .l0 x0 x1 =>let y3:=zD c.cores k.toNat;let y1:=zbz y3 x1.toNat;let y2:=i64.wrap (x0+(i64.wrap (y1.usable+y1.slack)));let y4:=zdG k x1;let y5:=zag (zaZ (y1.slack) 82 16384) 420 y4;let y6:=znd c k (y1.partition);let y7:=i64.wrap (x1+1);.c (decide (x1<y3.length)) (.g (zN x1 y3.length) <| .c (zaZ (y1.partition) (-1) (i64.wrap (c.partitions.length-1))) (.b y6 fun r1=>.b (zbv [(zag (zaZ (y1.usable) 1 16384) 419 y4),y5,(zag (!r1) 422 y4)]) fun r2=>.c (!(((r2.e:Int)==fine.e)&&((((r2.where_.first:Int)==fine.where_.first)&&(((r2.where_.second:Int)==fine.where_.second)&&true))&&true))) (.r r2) (.j (.l0 y2 y7))) (.b y6 fun r3=>.b (zbv [(zag false 419 y4),y5,(zag (!r3) 422 y4)]) fun r4=>.c (!(((r4.e:Int)==fine.e)&&((((r4.where_.first:Int)==fine.where_.first)&&(((r4.where_.second:Int)==fine.where_.second)&&true))&&true))) (.r r4) (.j (.l0 y2 y7)))) (.r (zag (x0==c.major) 421 (za2 k)))
def zzD(c:za)(k:Int):Tree zwp zyt:=.g (zN k c.cores.length) <| .c (!(zaZ ((zD c.cores k.toNat).length) 1 16)) (.r (⟨418,(za2 k)⟩:zx)) (.g (zN k c.cores.length) <| .j (.l0 0 0))
def zqu(c:za)(k:Int):zwp->Option zyt:=zan (zpI c k)
theorem zoX(c:za)(k:Int)(l:zwp):zqu c k l=(zpI c k l).run (zqu c k):=zF _ l
def zqI(c:za)(k:Int):Option zyt:=(zzD c k).run (zqu c k)
theorem zHH(c:za)(k:Int):Oks 125 [.agg (Ty.enc .sConfig c),(zg k)] [] (zqI c k) zPa:=zM GC0 (H:=H125) zJ Tryz.func125 rfl (by kernel_rfl) (zOk c k) (fun J l=>by cases l <;> kernel_rfl) (fun J=>by kernel_rfl)
abbrev R92:=zaw
def to92(r:R92):Ans:=⟨.tup [],[.cells 232 (Ty.enc .sBulkheadref22Devices r)]⟩
inductive L92 where | l0 (x0:Bool) (x1:Int) (x2:List z6) | l25 (x0:Bool) (x1:Int) (x2:List z6) | l31 (x0:List z6)
def H92:zaa:=htt [12,15] [(0,⟨fgt [0,5,6,7,8] 65 0,[(.slot 6,.own 85 .sFeed),(.box 5 2,.sl (.i .u32))]⟩),(25,⟨fgt [0,5,6,7,8] 65 0,[(.slot 6,.own 85 .sFeed),(.box 5 2,.sl (.i .u32))]⟩),(31,⟨fgt [0,6] 65 0,[]⟩)] [(.box 0 11,.sl .sFeed)]
def st92(f:z6)(c:za)(lay:zaQ)(fs:(List z6)):L92->Nat × St | .l0 x0 x1 x2=>(0,⟨mkE [(0,.ref 0 0),(5,.ref 1 0),(6,.own 2),(7,(avB x0)),(8,(zg x1))] 65 0,[.cells 232 [(zg c.frames),(zg c.major),(zg c.kernel),(zg c.room),.sl (.sl .sWindow) c.cores,.sl .sPartition c.partitions,.sl .sChannel c.channels,(zg lay.barrier),.sl .sPartitionPlace lay.partitions,.sl .sChannelPlace lay.channels,(zg lay.end_),.sl .sFeed fs],.cells 85 [(zg f.partition),(zg f.epoch),.sl (.i .u32) (([]:List Int)++f.words)],.arr 85 .sFeed x2],GL,1,[],zO⟩) | .l25 x0 x1 x2=>(25,⟨mkE [(0,.ref 0 0),(5,.ref 1 0),(6,.own 2),(7,(avB x0)),(8,(zg x1))] 65 0,[.cells 232 [(zg c.frames),(zg c.major),(zg c.kernel),(zg c.room),.sl (.sl .sWindow) c.cores,.sl .sPartition c.partitions,.sl .sChannel c.channels,(zg lay.barrier),.sl .sPartitionPlace lay.partitions,.sl .sChannelPlace lay.channels,(zg lay.end_),.sl .sFeed fs],.cells 85 [(zg f.partition),(zg f.epoch),.sl (.i .u32) (([]:List Int)++f.words)],.arr 85 .sFeed x2],GL,1,[],zO⟩) | .l31 x0=>(31,⟨mkE [(0,.ref 0 0),(6,.own 1)] 65 0,[.cells 232 [(zg c.frames),(zg c.major),(zg c.kernel),(zg c.room),.sl (.sl .sWindow) c.cores,.sl .sPartition c.partitions,.sl .sChannel c.channels,(zg lay.barrier),.sl .sPartitionPlace lay.partitions,.sl .sChannelPlace lay.channels,(zg lay.end_),.sl .sFeed fs],.arr 85 .sFeed x0],GL,1,[],zO⟩)
def zod(f:z6)(c:za)(lay:zaQ)(fs:(List z6)):L92->Tree L92 R92 | .l0 x0 x1 x2 =>let y1:=(⟨f.partition,f.epoch,(([]:List Int)++f.words)⟩:z6);let y3:=(x2:List z6);let y2:=(leB ((y3.length+([y1]:List z6).length)*40) 140737488355328);.c (decide (x1<fs.length)) (.c (!x0) (.g (zN x1 fs.length) <| .c (zBA y1 (zA fs x1.toNat)) (.g y2 <| .j (.l25 true x1 (y3++[y1]))) (.j (.l25 x0 x1 x2))) (.j (.l25 x0 x1 x2))) (.c (!x0) (.g y2 <| .j (.l31 (y3++[y1]))) (.j (.l31 x2))) | .l25 x0 x1 x2 =>let y1:=zA fs x1.toNat;.g (zN x1 fs.length) <| .g (leB (((x2:List z6).length+([y1]:List z6).length)*40) 140737488355328) <| .j (.l0 x0 (i64.wrap (x1+1)) ((x2:List z6)++[y1])) | .l31 x0=>.r (⟨c,lay,x0⟩:zaw)
def zEN(f:z6)(c:za)(lay:zaQ)(fs:(List z6)):Tree L92 R92:=.g (leB ((([]:List Int).length+(f.words:List Int).length)*4) 140737488355328) <| .j (.l0 false 0 [])
def zpe(f:z6)(c:za)(lay:zaQ)(fs:(List z6)):L92->Option R92:=zan (zod f c lay fs)
theorem zjk(f:z6)(c:za)(lay:zaQ)(fs:(List z6))(l:L92):zpe f c lay fs l=(zod f c lay fs l).run (zpe f c lay fs):=zF _ l
def zsY(f:z6)(c:za)(lay:zaQ)(fs:(List z6)):Option R92:=(zEN f c lay fs).run (zpe f c lay fs)
theorem zNX(f:z6)(c:za)(lay:zaQ)(fs:(List z6)):Oks 92 [.ref 0 0,.agg (Ty.enc .sFeed f)] [.cells 232 [(zg c.frames),(zg c.major),(zg c.kernel),(zg c.room),.sl (.sl .sWindow) c.cores,.sl .sPartition c.partitions,.sl .sChannel c.channels,(zg lay.barrier),.sl .sPartitionPlace lay.partitions,.sl .sChannelPlace lay.channels,(zg lay.end_),.sl .sFeed fs]] (zsY f c lay fs) to92:=zM GC0 (H:=H92) zJ Tryz.func92 rfl (by kernel_rfl) (st92 f c lay fs) (fun J l=>by cases l <;> kernel_rfl) (fun J=>by kernel_rfl)
abbrev zF3:=zX × Int × ze
def zFn(r:zF3):Ans:=⟨.tup [.agg [(zg r.1.place.lock),(zg r.1.place.save),(zg r.1.place.state),(zg r.1.place.root),.sl (.i .i64) r.1.place.tables,(zr r.1.entry),(zr r.1.most),(zr r.1.outs),.any,.any],(zg r.2.1)],[.cells 112 [.own 1],.arr 46 (.i .u32) r.2.2.words]⟩
def H167:zaa:=⟨fun _=>false,fun _=>⟨[],[]⟩,[(.cell 0 4,.sl (.i .i64)),(.cell 0 8,.un),(.cell 0 9,.un)],G0,zO⟩
def zng(w:(Option zaf))(p:Int)(odd:Bool)(ws:List Int):Option zF3:=Tree.run0 <|
 .c w.isNone
 (.r ((⟨(⟨0,0,0,0,[]⟩:zj),0,0,0,(⟨(),()⟩:zay)⟩:zX),3,(⟨ws⟩:ze)))
 (.b (zdH (some (⟨ws⟩:ze))) fun r1=>
 .g w.isSome <|
 .c (!((r1:Int)==(w.getD default).frames))
 (.r ((⟨(⟨0,0,0,0,[]⟩:zj),0,0,0,(⟨(),()⟩:zay)⟩:zX),1,(⟨ws⟩:ze)))
 (.c odd
 (.r ((⟨(⟨0,0,0,0,[]⟩:zj),0,0,0,(⟨(),()⟩:zay)⟩:zX),1,(⟨ws⟩:ze)))
 (.c (decide ((p:Int)<0))
 (.r ((⟨(⟨0,0,0,0,[]⟩:zj),0,0,0,(⟨(),()⟩:zay)⟩:zX),230,(⟨ws⟩:ze)))
 (.g w.isSome <|
 .c (decide ((p:Int)>=((w.getD default).wards).length))
 (.r ((⟨(⟨0,0,0,0,[]⟩:zj),0,0,0,(⟨(),()⟩:zay)⟩:zX),230,(⟨ws⟩:ze)))
 (.g w.isSome <|
 .g (zN p ((w.getD default).wards).length) <|
 .r ((⟨(zaB ((w.getD default).wards) p.toNat).place,(zaB ((w.getD default).wards) p.toNat).entry,(zaB ((w.getD default).wards) p.toNat).most,(zaB ((w.getD default).wards) p.toNat).outs,(⟨(),()⟩:zay)⟩:zX),0,(⟨ws⟩:ze)))))))
theorem zIi(w:(Option zaf))(p:Int)(odd:Bool)(ws:List Int):Oks 167 [.op .sHealthWards w,.ref 0 0,(zg p),(avB odd)] [.cells 112 [.own 1],.arr 46 (.i .u32) ws] (zng w p odd ws) zFn:=zL GC0 (H:=H167) zJ Tryz.func167 rfl (by kernel_rfl) (fun J=>by kernel_rfl)
abbrev zyC:=Int
def zPp(r:zyC):Ans:=⟨(zg r),[]⟩
inductive zwy where | l0 (x0:Int)
def H147:zaa:=htt [] [(0,⟨fgt [0,1,15,16,17] 40 0,[]⟩)] []
def zOt(d:(Option zT))(m:(Option ze))(partitions:(List Int)):zwy->Nat × St | .l0 x0=>(0,⟨mkE [(0,.op .sDeviceDevices d),(1,.op .sMemMemory m),(15,.sl (.i .i64) partitions),(16,(zg partitions.length)),(17,(zg x0))] 40 0,[],GL,0,[],zO⟩)
def zpL(d:(Option zT))(m:(Option ze))(partitions:(List Int)):zwy->Tree zwy zyC | .l0 x0 =>let y1:=(zw partitions x0.toNat:Int);.c (decide (x0<partitions.length)) (.g (zN x0 partitions.length) <| .c (decide (y1<0)) (.r 1) (.g d.isSome <| .c (decide (y1>=((d.getD default).at_).length)) (.r 1) (.j (.l0 (i64.wrap (x0+1)))))) (.b (zdH m) fun r1=>.g d.isSome <| .c (!((r1:Int)==(d.getD default).frames)) (.r 1) (.r 0))
def zzJ(d:(Option zT))(m:(Option ze))(partitions:(List Int)):Tree zwy zyC:=.c d.isNone (.r 3) (.c m.isNone (.r 3) (.j (.l0 0)))
def zud(d:(Option zT))(m:(Option ze))(partitions:(List Int)):zwy->Option zyC:=zan (zpL d m partitions)
theorem zo0(d:(Option zT))(m:(Option ze))(partitions:(List Int))(l:zwy):zud d m partitions l=(zpL d m partitions l).run (zud d m partitions):=zF _ l
def zqN(d:(Option zT))(m:(Option ze))(partitions:(List Int)):Option zyC:=(zzJ d m partitions).run (zud d m partitions)
theorem zHY(d:(Option zT))(m:(Option ze))(partitions:(List Int)):Oks 147 [.op .sDeviceDevices d,.op .sMemMemory m,.sl (.i .i64) partitions] [] (zqN d m partitions) zPp:=zM GC0 (H:=H147) zJ Tryz.func147 rfl (by kernel_rfl) (zOt d m partitions) (fun J l=>by cases l <;> kernel_rfl) (fun J=>by kernel_rfl)
abbrev zyG:=Bool
def zPv(r:zyG):Ans:=⟨(avB r),[]⟩
inductive zwC where | l0 (x0:Int)
def H153:zaa:=htt [] [(0,⟨fgt [1,6,7,8] 31 0,[]⟩)] []
def zOx(x:zf):zwC->Nat × St | .l0 x0=>(0,⟨mkE [(1,.ref 0 0),(6,.sl .sRegion x.regions),(7,(zg x.regions.length)),(8,(zg x0))] 31 0,[.cells 72 (Ty.enc .sPartition x)],GL,0,[],zO⟩)
def zpO(x:zf):zwC->Tree zwC zyG | .l0 x0 =>let y1:=i64.wrap (x0+1);.c (decide (x0<x.regions.length)) (.g (zN x0 x.regions.length) <| .c (zaZ (bop .quo .i64 x.entry 16) ((zh x.regions x0.toNat).page) (i64.wrap ((i64.wrap ((zh x.regions x0.toNat).page+(zh x.regions x0.toNat).pages))-1))) (.c (!(((bop .and .i64 ((zh x.regions x0.toNat).rights) 4):Int)==0)) (.r true) (.j (.l0 y1))) (.j (.l0 y1))) (.r false)
def zGR(x:zf):Tree zwC zyG:=.j (.l0 0)
def zmS(x:zf):zwC->Option zyG:=zan (zpO x)
theorem zo3(x:zf)(l:zwC):zmS x l=(zpO x l).run (zmS x):=zF _ l
def znc(x:zf):Option zyG:=(zGR x).run (zmS x)
theorem zH4(x:zf):Oks 153 [.agg (Ty.enc .sPartition x)] [] (znc x) zPv:=zM GC0 (H:=H153) zJ Tryz.func153 rfl (by kernel_rfl) (zOx x) (fun J l=>by cases l <;> kernel_rfl) (fun J=>by kernel_rfl)
abbrev R66:=zaM × Int × zah
def to66(r:R66):Ans:=⟨.tup [.agg [(zr r.1.one),(zr r.1.two),(zr r.1.three)],(zg r.2.1)],[.cells 116 [.op .sCallsCalls r.2.2.calls,.ref 1 0,(zg r.2.2.p),(zg r.2.2.epoch),(zr r.2.2.x.regs.e0),(zr r.2.2.x.regs.e1),(zr r.2.2.x.regs.e2),(zr r.2.2.x.regs.e3),(zr r.2.2.x.regs.e4),(zr r.2.2.x.regs.e5),(zr r.2.2.x.regs.e6),(zr r.2.2.x.regs.e7),(zr r.2.2.x.regs.e8),(zr r.2.2.x.regs.e9),(zr r.2.2.x.regs.e10),(zr r.2.2.x.regs.e11),(zr r.2.2.x.regs.e12),(zr r.2.2.x.regs.e13),(zr r.2.2.x.regs.e14),(zr r.2.2.x.regs.e15),(zr r.2.2.x.pC)],.cells 112 [.own 2],.arr 46 (.i .u32) ((r.2.2.m.getD default).words)]⟩
def zsT(s:(Option zq))(p:Int)(epoch:Int)(x:zB)(ws:List Int):Option R66:=Tree.run0 <|
 .g s.isSome <|
 .g (zN 1 16) <|
 .b (zqB ((s.getD default).devices) p epoch x.regs.e1) fun r1=>
 .r ((⟨(u32.wrap r1.1),r1.2,0⟩:zaM),0,(⟨s,(some (⟨ws⟩:ze)),p,epoch,x⟩:zah))
theorem zNx(s:(Option zq))(p:Int)(epoch:Int)(x:zB)(ws:List Int):Oks 66 [.ref 0 0] [.cells 116 [.op .sCallsCalls s,.ref 1 0,(zg p),(zg epoch),(zr x.regs.e0),(zr x.regs.e1),(zr x.regs.e2),(zr x.regs.e3),(zr x.regs.e4),(zr x.regs.e5),(zr x.regs.e6),(zr x.regs.e7),(zr x.regs.e8),(zr x.regs.e9),(zr x.regs.e10),(zr x.regs.e11),(zr x.regs.e12),(zr x.regs.e13),(zr x.regs.e14),(zr x.regs.e15),(zr x.pC)],.cells 112 [.own 2],.arr 46 (.i .u32) ws] (zsT s p epoch x ws) to66:=zL GC0 (H:=H0) zJ Tryz.func66 rfl (by kernel_rfl) (fun J=>by kernel_rfl)
abbrev zCD:=(List Int) × Int
def zPG(r:zCD):Ans:=⟨.tup [.own 0,(zg r.2)],[.arr 46 (.i .u32) r.1]⟩
def H168:zaa:=⟨fun _=>false,fun _=>⟨[],[]⟩,[(.slot 0,.own 46 (.i .u32))],G0,zO⟩
def zcX(m:(Option ze))(at_1:Int)(n_2:Int):Option zCD:=Tree.run0 <|
 .b (zfo m at_1 n_2) fun r1=>
 .c (!((r1:Int)==0))
 (.r ([],r1))
 (.g (decide ((n_2:Int)=n_2)&&decide (0<=n_2)&&leB (n_2.toNat*4) 140737488355328) <|
 .g m.isSome <|
 .g (inS at_1 (((m.getD default).words).length) ((m.getD default).words).length) <|
 .r ((zcA (List.replicate n_2.toNat (0:Int)) 0 (List.take ((List.replicate n_2.toNat (0:Int)).length) (((((m.getD default).words).take (((m.getD default).words).length:Int).toNat).drop at_1.toNat):List Int))),0))
theorem zIj(m:(Option ze))(at_1:Int)(n_2:Int):Oks 168 [.op .sMemMemory m,(zg at_1),(zg n_2)] [] (zcX m at_1 n_2) zPG:=zL GC0 (H:=H168) zJ Tryz.func168 rfl (by kernel_rfl) (fun J=>by kernel_rfl)
abbrev R58:=(List Int)
def to58(r:R58):Ans:=⟨.tup [],[.arr 46 (.i .u32) r]⟩
inductive L58 where | l0 (x0:Int) (x1:List Int)
def H58:zaa:=htt [] [(0,⟨fgt [0,2,4,6] 22 0,[]⟩)] []
def st58(p:zf)(program:(List Int))(m:List Int):L58->Nat × St | .l0 x0 x1=>(0,⟨mkE [(0,.own 0),(2,.sl (.i .u32) program),(4,.ref 1 0),(6,(zg x0))] 22 0,[.arr 46 (.i .u32) x1,.cells 72 (Ty.enc .sPartition p)],GL,1,[],zO⟩)
def zuJ(p:zf)(program:(List Int))(m:List Int):L58->Tree L58 R58 | .l0 x0 x1=>.c (decide (x0<program.length)) (.b (zpk p x0) fun r1=>.g (zN x0 program.length) <| .g (zN r1 x1.length) <| .j (.l0 (i64.wrap (x0+1)) (List.set x1 r1.toNat (zw program x0.toNat)))) (.r x1)
def zEA(p:zf)(program:(List Int))(m:List Int):Tree L58 R58:=.j (.l0 0 m)
def zst(p:zf)(program:(List Int))(m:List Int):L58->Option R58:=zan (zuJ p program m)
theorem zsu(p:zf)(program:(List Int))(m:List Int)(l:L58):zst p program m l=(zuJ p program m l).run (zst p program m):=zF _ l
def zph(p:zf)(program:(List Int))(m:List Int):Option R58:=(zEA p program m).run (zst p program m)
theorem zNp(p:zf)(program:(List Int))(m:List Int):Oks 58 [.own 0,.agg (Ty.enc .sPartition p),.sl (.i .u32) program] [.arr 46 (.i .u32) m] (zph p program m) to58:=zM GC0 (H:=H58) zJ Tryz.func58 rfl (by kernel_rfl) (st58 p program m) (fun J l=>by cases l <;> kernel_rfl) (fun J=>by kernel_rfl)
abbrev R82:=zay
def to82(r:R82):Ans:=⟨.agg [.any,.any],[]⟩
def H82:zaa:=⟨fun _=>false,fun _=>⟨[],[]⟩,[(.cell 0 0,.un),(.cell 0 1,.un)],G0,zO⟩
def sp82(p:zf):R82:=Tree.val (L:=Empty) <|
 .c ((p.action:Int)==0)
 (.r (⟨(),()⟩:zay))
 (.r (⟨(),()⟩:zay))
theorem zNN(p:zf):Oks 82 [.agg (Ty.enc .sPartition p)] [] (some (sp82 p)) to82:=zbt GC0 (H:=H82) zJ Tryz.func82 rfl (by kernel_rfl) rfl (fun J=>by kernel_rfl)
abbrev R60:=ze
def to60(r:R60):Ans:=⟨.ref 0 0,[.cells 112 [.own 1],.arr 46 (.i .u32) r.words]⟩
def H60:zaa:=⟨fun _=>false,fun _=>⟨[],[]⟩,[(.slot 0,.fnc)],G0,zO⟩
def zvR(m:(Option ze)):Option R60:=Tree.run0 <|
 .c m.isNone
 (.n)
 (.g m.isSome <|
 .b (zgL ((m.getD default).words)) fun r1=>
 .r (⟨r1⟩:ze))
theorem zNr(m:(Option ze)):Oks 60 [.op .sMemMemory m] [] (zvR m) to60:=zL GC0 (H:=H60) zJ Tryz.func60 rfl (by kernel_rfl) (fun J=>by kernel_rfl)
abbrev R119:=zx
def zO3(r:R119):Ans:=⟨.agg [(zg r.e),(zg r.where_.first),(zg r.where_.second)],[]⟩
def zE8(a:za):R119:=(zag (decide ((a.channels.length:Int)<=16)) 404 nowhere)
theorem zAV(a:za):Oks 119 [.op .sConfig (some a)] [] (some (zE8 a)) zO3:=zbh GC0 (H:=H0) zJ Tryz.func119 rfl (by kernel_rfl) (fun J=>by kernel_rfl)
abbrev R113:=zx
def zOX(r:R113):Ans:=⟨.agg [(zg r.e),(zg r.where_.first),(zg r.where_.second)],[]⟩
def zE4(a:za):R113:=(zag (zaZ a.frames 1 1024) 400 nowhere)
theorem zAR(a:za):Oks 113 [.op .sConfig (some a)] [] (some (zE4 a)) zOX:=zbh GC0 (H:=H0) zJ Tryz.func113 rfl (by kernel_rfl) (fun J=>by kernel_rfl)
def k7:Fk 7:=aF (aS .sBulkheadlaw25Start fun a0=>aE (oks7 a0))
def k11:Fk 11:=aF (aL (.p .sMemMemory) fun a0=>aE (zMM a0))
def k21:Fk 21:=aF (aL (.p .sMemMemory) fun a0=>aL (.i .i64) fun a1=>aE (zMR a0 a1))
def g28(args:List AV)(hp:List Blk):Option Rsp:=
 match args,hp with
 | [.agg [.v (.int .i64 y0),.v (.int .i64 y1),.v (.int .i64 y2),.v (.int .i64 y3),.own 0,.own 1,.own 2],a1],[.row 136 (.sl .sWindow) [(0,135)] [] y4,.row 72 .sPartition [(6,138),(7,74)] [] y5,.arr 76 .sChannel y6]=>(rdS .sConfig a1).bind fun b1=>some ⟨R28,(zlb y0 y1 y2 y3 b1 y4 y5 y6),to28,default⟩
 | _,_=>none
def k28:Fk 28:=⟨g28,fun args hp y h x hx=>by
 unfold g28 at h
 split at h
 . simp only[Option.bind_eq_some_iff]at h
   obtain ⟨b1,h1,h⟩:=h
   cases h;exact(zMY _ _ _ _ b1 _ _ _).ats (.cons (fun _ _ _ _ h=>h) (.cons (zct h1) .nil)) hx
 . cases h⟩
def k31:Fk 31:=aF (aL (.sl (.i .u32)) fun a0=>aE (zM1 a0))
def k39:Fk 39:=aF (aS .sConfig fun a0=>aS .sBulkheadlaw25Op fun a1=>aL (.i .u32) fun a2=>aL (.i .i64) fun a3=>aS .sOwner fun a4=>aE (zM9 a0 a1 a2 a3 a4))
def k44:Fk 44:=aF (aL (.p .sDuctDucts) fun a0=>aL (.i .i64) fun a1=>aL (.i .i64) fun a2=>aE (zNb a0 a1 a2))
def k56:Fk 56:=aF (aS .sPartition fun a0=>aL (.sl (.i .u32)) fun a1=>aE (zNn a0 a1))
def g57(args:List AV)(hp:List Blk):Option Rsp:=
 match args,hp with
 | [.own 0,a1,a2],[.arr 46 (.i .u32) y0]=>(rdS .sPartition a1).bind fun b1=>(rdS .sPartitionPlace a2).bind fun b2=>some ⟨R57,(zpg b1 b2 y0),to57,default⟩
 | _,_=>none
def k57:Fk 57:=⟨g57,fun args hp y h x hx=>by
 unfold g57 at h
 split at h
 . simp only[Option.bind_eq_some_iff]at h
   obtain ⟨b1,h1,b2,h2,h⟩:=h
   cases h;exact(zNo b1 b2 _).ats (.cons (fun _ _ _ _ h=>h) (.cons (zct h1) (.cons (zct h2) .nil))) hx
 . cases h⟩
def g58(args:List AV)(hp:List Blk):Option Rsp:=
 match args,hp with
 | [.own 0,a1,a2],[.arr 46 (.i .u32) y0]=>(rdS .sPartition a1).bind fun b1=>(rdL (.sl (.i .u32)) a2).bind fun b2=>some ⟨R58,(zph b1 b2 y0),to58,default⟩
 | _,_=>none
def k58:Fk 58:=⟨g58,fun args hp y h x hx=>by
 unfold g58 at h
 split at h
 . simp only[Option.bind_eq_some_iff]at h
   obtain ⟨b1,h1,b2,h2,h⟩:=h
   cases h;exact(zNp b1 b2 _).ats (.cons (fun _ _ _ _ h=>h) (.cons (zct h1) (.cons (z8 h2) .nil))) hx
 . cases h⟩
def k59:Fk 59:=aF (aL (.p .sDuctDucts) fun a0=>aL (.p .sMemMemory) fun a1=>aE (zNq a0 a1))
def k60:Fk 60:=aF (aL (.p .sMemMemory) fun a0=>aE (zNr a0))
def g66(args:List AV)(hp:List Blk):Option Rsp:=
 match args,hp with
 | [.ref 0 0],[.cells 116 [.op .sCallsCalls y0,.ref 1 0,.v (.int .i64 y1),.v (.int .i64 y2),.v (.int .u32 y3),.v (.int .u32 y4),.v (.int .u32 y5),.v (.int .u32 y6),.v (.int .u32 y7),.v (.int .u32 y8),.v (.int .u32 y9),.v (.int .u32 y10),.v (.int .u32 y11),.v (.int .u32 y12),.v (.int .u32 y13),.v (.int .u32 y14),.v (.int .u32 y15),.v (.int .u32 y16),.v (.int .u32 y17),.v (.int .u32 y18),.v (.int .u32 y19)],.cells 112 [.own 2],.arr 46 (.i .u32) y20]=>some ⟨R66,(zsT y0 y1 y2 (⟨(⟨y3,y4,y5,y6,y7,y8,y9,y10,y11,y12,y13,y14,y15,y16,y17,y18⟩:zZ),y19⟩:zB) y20),to66,default⟩
 | _,_=>none
def k66:Fk 66:=⟨g66,fun args hp y h x hx=>by
 unfold g66 at h
 split at h
 . cases h;exact(zNx _ _ _ _ _).ats (.cons (fun _ _ _ _ h=>h) .nil) hx
 . cases h⟩
def k76:Fk 76:=aF (aS .sConfig fun a0=>aE (zNH a0))
def k77:Fk 77:=aF (aL (.i .i64) fun a0=>aE (zNI a0))
def k80:Fk 80:=aF (aS .sChannel fun a0=>aE (zNL a0))
def k82:Fk 82:=aF (aS .sPartition fun a0=>aE (zNN a0))
def k83:Fk 83:=aF (aS .sConfig fun a0=>aE (zNO a0))
def k86:Fk 86:=aF (aS .sConfig fun a0=>aL (.i .i64) fun a1=>aE (zNR a0 a1))
def k88:Fk 88:=aF (aS .sConfig fun a0=>aL (.i .i64) fun a1=>aE (zNT a0 a1))
def g92(args:List AV)(hp:List Blk):Option Rsp:=
 match args,hp with
 | [.ref 0 0,a1],[.cells 232 [.v (.int .i64 y0),.v (.int .i64 y1),.v (.int .i64 y2),.v (.int .i64 y3),.sl (.sl .sWindow) y4,.sl .sPartition y5,.sl .sChannel y6,.v (.int .i64 y7),.sl .sPartitionPlace y8,.sl .sChannelPlace y9,.v (.int .i64 y10),.sl .sFeed y11]]=>(rdS .sFeed a1).bind fun b1=>some ⟨R92,(zsY b1 (⟨y0,y1,y2,y3,y4,y5,y6⟩:za) (⟨y7,y8,y9,y10⟩:zaQ) y11),to92,default⟩
 | _,_=>none
def k92:Fk 92:=⟨g92,fun args hp y h x hx=>by
 unfold g92 at h
 split at h
 . simp only[Option.bind_eq_some_iff]at h
   obtain ⟨b1,h1,h⟩:=h
   cases h;exact(zNX b1 _ _ _).ats (.cons (fun _ _ _ _ h=>h) (.cons (zct h1) .nil)) hx
 . cases h⟩
def k98:Fk 98:=aF (aL (.p .sDuctDucts) fun a0=>aL (.i .i64) fun a1=>aL (.i .i64) fun a2=>aE (zN3 a0 a1 a2))
def g103(args:List AV)(hp:List Blk):Option Rsp:=
 match args,hp with
 | [.ref 0 0,a1,a2],[.cells 112 [.own 1],.arr 46 (.i .u32) y0]=>(rdL (.i .i64) a1).bind fun b1=>(rdL (.i .u32) a2).bind fun b2=>some ⟨zwW,(zdN b1 b2 y0),zFd,default⟩
 | _,_=>none
def k103:Fk 103:=⟨g103,fun args hp y h x hx=>by
 unfold g103 at h
 split at h
 . simp only[Option.bind_eq_some_iff]at h
   obtain ⟨b1,h1,b2,h2,h⟩:=h
   cases h;exact(zHt b1 b2 _).ats (.cons (fun _ _ _ _ h=>h) (.cons (z8 h1) (.cons (z8 h2) .nil))) hx
 . cases h⟩
def k109:Fk 109:=aF (aS .sChannel fun a0=>aE (zHz a0))
def k111:Fk 111:=aF (aS .sChannel fun a0=>aE (zHB a0))
def k113:Fk 113:=aF (aP .sConfig fun a0=>aE (zAR a0))
def k116:Fk 116:=aF (aP .sConfig fun a0=>aE (zAS a0))
def k117:Fk 117:=aF (aP .sConfig fun a0=>aE (zAT a0))
def k118:Fk 118:=aF (aP .sConfig fun a0=>aE (zAU a0))
def k119:Fk 119:=aF (aP .sConfig fun a0=>aE (zAV a0))
def k123:Fk 123:=aF (aS .sConfig fun a0=>aL (.i .i64) fun a1=>aE (zHG a0 a1))
def k125:Fk 125:=aF (aS .sConfig fun a0=>aL (.i .i64) fun a1=>aE (zHH a0 a1))
def k135:Fk 135:=aF (aS .sConfig fun a0=>aL (.i .i64) fun a1=>aE (zHM a0 a1))
def k137:Fk 137:=aF (aS .sPartition fun a0=>aE (zHO a0))
def k147:Fk 147:=aF (aL (.p .sDeviceDevices) fun a0=>aL (.p .sMemMemory) fun a1=>aL (.sl (.i .i64)) fun a2=>aE (zHY a0 a1 a2))
def k150:Fk 150:=aF (aS .sConfig fun a0=>aL (.i .i64) fun a1=>aE (zH1 a0 a1))
def k152:Fk 152:=aF (aS .sConfig fun a0=>aL (.i .i64) fun a1=>aL (.i .i64) fun a2=>aE (zH3 a0 a1 a2))
def k153:Fk 153:=aF (aS .sPartition fun a0=>aE (zH4 a0))
def k160:Fk 160:=aF (aS .sConfig fun a0=>aS .sRegion fun a1=>aE (zIb a0 a1))
def k162:Fk 162:=aF (aL (.p .sMemMemory) fun a0=>aL (.i .i64) fun a1=>aE (zId a0 a1))
def g167(args:List AV)(hp:List Blk):Option Rsp:=
 match args,hp with
 | [a0,.ref 0 0,a2,a3],[.cells 112 [.own 1],.arr 46 (.i .u32) y0]=>(rdL (.p .sHealthWards) a0).bind fun b0=>(rdL (.i .i64) a2).bind fun b2=>(rdL .b a3).bind fun b3=>some ⟨zF3,(zng b0 b2 b3 y0),zFn,default⟩
 | _,_=>none
def k167:Fk 167:=⟨g167,fun args hp y h x hx=>by
 unfold g167 at h
 split at h
 . simp only[Option.bind_eq_some_iff]at h
   obtain ⟨b0,h0,b2,h2,b3,h3,h⟩:=h
   cases h;exact(zIi b0 b2 b3 _).ats (.cons (z8 h0) (.cons (fun _ _ _ _ h=>h) (.cons (z8 h2) (.cons (z8 h3) .nil)))) hx
 . cases h⟩
def k168:Fk 168:=aF (aL (.p .sMemMemory) fun a0=>aL (.i .i64) fun a1=>aL (.i .i64) fun a2=>aE (zIj a0 a1 a2))
def k176:Fk 176:=aF (aS .sQueueForm fun a0=>aL (.i .i64) fun a1=>aE (zIr a0 a1))
def k177:Fk 177:=aF (aS .sQueueForm fun a0=>aL (.sl (.i .u32)) fun a1=>aL (.i .u32) fun a2=>aL (.i .u32) fun a3=>aE (zIs a0 a1 a2 a3))
def g179(args:List AV)(hp:List Blk):Option Rsp:=
 match args,hp with
 | [.ref 0 0,a1,a2],[.cells 112 [.own 1],.arr 46 (.i .u32) y0]=>(rdL (.i .i64) a1).bind fun b1=>(rdL (.sl (.i .u32)) a2).bind fun b2=>some ⟨zw0,(zeV b1 b2 y0),zFq,default⟩
 | _,_=>none
def k179:Fk 179:=⟨g179,fun args hp y h x hx=>by
 unfold g179 at h
 split at h
 . simp only[Option.bind_eq_some_iff]at h
   obtain ⟨b1,h1,b2,h2,h⟩:=h
   cases h;exact(zIu b1 b2 _).ats (.cons (fun _ _ _ _ h=>h) (.cons (z8 h1) (.cons (z8 h2) .nil))) hx
 . cases h⟩
def k227:Fk 227:=aF (aL (.p .sMemMemory) fun a0=>aL (.i .i64) fun a1=>aL (.i .i64) fun a2=>aE (zIU a0 a1 a2))
def g229(args:List AV)(hp:List Blk):Option Rsp:=
 match args,hp with
 | [.ref 0 0,a1,a2,a3],[.cells 112 [.own 1],.arr 46 (.i .u32) y0]=>(rdL (.i .i64) a1).bind fun b1=>(rdL (.i .i64) a2).bind fun b2=>(rdL (.i .u32) a3).bind fun b3=>some ⟨zw3,(zku b1 b2 b3 y0),zFH,default⟩
 | _,_=>none
def k229:Fk 229:=⟨g229,fun args hp y h x hx=>by
 unfold g229 at h
 split at h
 . simp only[Option.bind_eq_some_iff]at h
   obtain ⟨b1,h1,b2,h2,b3,h3,h⟩:=h
   cases h;exact(zIW b1 b2 b3 _).ats (.cons (fun _ _ _ _ h=>h) (.cons (z8 h1) (.cons (z8 h2) (.cons (z8 h3) .nil)))) hx
 . cases h⟩
def k230:Fk 230:=aF (aL (.sl (.i .u32)) fun a0=>aL (.i .i64) fun a1=>aE (zIX a0 a1))
def k169:Fk 169:=aF (aS .sHealthWard fun a0=>aL (.sl (.i .u32)) fun a1=>aE (zIk a0 a1))
def GC1:GK:=zlj [⟨7,k7⟩,⟨11,k11⟩,⟨21,k21⟩,⟨28,k28⟩,⟨31,k31⟩,⟨39,k39⟩,⟨44,k44⟩,⟨56,k56⟩,⟨57,k57⟩,⟨58,k58⟩,⟨59,k59⟩,⟨60,k60⟩,⟨66,k66⟩,⟨76,k76⟩,⟨77,k77⟩,⟨80,k80⟩,⟨82,k82⟩,⟨83,k83⟩,⟨86,k86⟩,⟨88,k88⟩,⟨92,k92⟩,⟨98,k98⟩,⟨103,k103⟩,⟨109,k109⟩,⟨111,k111⟩,⟨113,k113⟩,⟨116,k116⟩,⟨117,k117⟩,⟨118,k118⟩,⟨119,k119⟩,⟨123,k123⟩,⟨125,k125⟩,⟨135,k135⟩,⟨137,k137⟩,⟨147,k147⟩,⟨150,k150⟩,⟨152,k152⟩,⟨153,k153⟩,⟨160,k160⟩,⟨162,k162⟩,⟨167,k167⟩,⟨168,k168⟩,⟨176,k176⟩,⟨177,k177⟩,⟨179,k179⟩,⟨227,k227⟩,⟨229,k229⟩,⟨230,k230⟩,⟨169,k169⟩] GC0
abbrev R71:=(List zk)
def to71(r:R71):Ans:=⟨.own 0,[.arr 182 .sBulkheadref15Piece r]⟩
inductive L71 where | l0 (x0:Int) (x1:Int) (x2:List zk) | l4 (x0:Int) (x1:Int) (x2:List zk) | l8 (x0:Int) (x1:Int) (x2:Int) (x3:Int) (x4:List zk) (x5:Int) (x6:Int) (x7:Int) | l16 (x0:Int) (x1:List zk) | l12 (x0:Int) (x1:Int) (x2:Int) (x3:Int) (x4:Int) (x5:Int) (x6:Int) (x7:List zk) (x8:Int) (x9:Int) (x10:Int) | l20 (x0:Int) (x1:Int) (x2:List zk) | l61 (x0:Int) (x1:Int) (x2:Int) (x3:Int) (x4:Int) (x5:Int) (x6:Int) (x7:List zk) (x8:Int) (x9:Int) (x10:Int) | l24 (x0:Int) (x1:Int) (x2:Int) (x3:Int) (x4:Int) (x5:List zk) | l89 (x0:Int) (x1:Int) (x2:Int) (x3:Int) (x4:Int) (x5:List zk) | l28 (x0:Int) (x1:Int) (x2:Int) (x3:Int) (x4:Int) (x5:List zk)
def H71:zaa:=htt [30,44] [(0,⟨fgt [1,3,4,27,28] 181 0,[]⟩),(4,⟨fgt [1,3,4,60,61] 181 0,[]⟩),(8,⟨fgt [1,3,4,6,7,60,61,93,94] 181 0,[]⟩),(12,⟨fgt [1,3,4,6,7,8,60,61,93,94,103,104] 181 0,[]⟩),(16,⟨fgt [1,3,4] 181 0,[]⟩),(20,⟨fgt [1,3,4,149,150] 181 0,[]⟩),(24,⟨fgt [1,3,4,11,12,149,150,153] 181 0,[]⟩),(28,⟨fgt [1,3,4,11,149,150,166,167] 181 0,[]⟩),(61,⟨fgt [1,3,4,6,7,8,60,61,93,94,103,104] 181 0,[]⟩),(89,⟨fgt [1,3,4,11,12,149,150,153] 181 0,[]⟩)] []
def st71(c:za):L71->Nat × St | .l0 x0 x1 x2=>(0,⟨mkE [(1,.ref 0 0),(3,.own 1),(4,(zg x0)),(27,(zg c.partitions.length)),(28,(zg x1))] 181 0,[.cells 26 (Ty.enc .sConfig c),.arr 182 .sBulkheadref15Piece x2],GL,0,[],zO⟩) | .l4 x0 x1 x2=>(4,⟨mkE [(1,.ref 0 0),(3,.own 1),(4,(zg x0)),(60,(zg c.channels.length)),(61,(zg x1))] 181 0,[.cells 26 (Ty.enc .sConfig c),.arr 182 .sBulkheadref15Piece x2],GL,0,[],zO⟩) | .l8 x0 x1 x2 x3 x4 x5 x6 x7=>(8,⟨mkE [(1,.ref 0 0),(3,.own 1),(4,(zg x0)),(6,(zg x1)),(7,.ref 2 0),(60,(zg c.channels.length)),(61,(zg x2)),(93,(zg c.partitions.length)),(94,(zg x3))] 181 0,[.cells 26 (Ty.enc .sConfig c),.arr 182 .sBulkheadref15Piece x4,.cells 76 [(zg x5),(zg x6),(zg x7)]],GL,0,[],zO⟩) | .l16 x0 x1=>(16,⟨mkE [(1,.ref 0 0),(3,.own 1),(4,(zg x0))] 181 0,[.cells 26 (Ty.enc .sConfig c),.arr 182 .sBulkheadref15Piece x1],GL,0,[],zO⟩) | .l12 x0 x1 x2 x3 x4 x5 x6 x7 x8 x9 x10=>(12,⟨mkE [(1,.ref 0 0),(3,.own 1),(4,(zg x0)),(6,(zg x1)),(7,.ref 2 0),(8,(zg x2)),(60,(zg c.channels.length)),(61,(zg x3)),(93,(zg c.partitions.length)),(94,(zg x4)),(103,(zg x5)),(104,(zg x6))] 181 0,[.cells 26 (Ty.enc .sConfig c),.arr 182 .sBulkheadref15Piece x7,.cells 76 [(zg x8),(zg x9),(zg x10)]],GL,0,[],zO⟩) | .l20 x0 x1 x2=>(20,⟨mkE [(1,.ref 0 0),(3,.own 1),(4,(zg x0)),(149,(zg c.partitions.length)),(150,(zg x1))] 181 0,[.cells 26 (Ty.enc .sConfig c),.arr 182 .sBulkheadref15Piece x2],GL,0,[],zO⟩) | .l61 x0 x1 x2 x3 x4 x5 x6 x7 x8 x9 x10=>(61,⟨mkE [(1,.ref 0 0),(3,.own 1),(4,(zg x0)),(6,(zg x1)),(7,.ref 2 0),(8,(zg x2)),(60,(zg c.channels.length)),(61,(zg x3)),(93,(zg c.partitions.length)),(94,(zg x4)),(103,(zg x5)),(104,(zg x6))] 181 0,[.cells 26 (Ty.enc .sConfig c),.arr 182 .sBulkheadref15Piece x7,.cells 76 [(zg x8),(zg x9),(zg x10)]],GL,0,[],zO⟩) | .l24 x0 x1 x2 x3 x4 x5=>(24,⟨mkE [(1,.ref 0 0),(3,.own 1),(4,(zg x0)),(11,(zg x1)),(12,(zg x2)),(149,(zg c.partitions.length)),(150,(zg x3)),(153,(zg x4))] 181 0,[.cells 26 (Ty.enc .sConfig c),.arr 182 .sBulkheadref15Piece x5],GL,0,[],zO⟩) | .l89 x0 x1 x2 x3 x4 x5=>(89,⟨mkE [(1,.ref 0 0),(3,.own 1),(4,(zg x0)),(11,(zg x1)),(12,(zg x2)),(149,(zg c.partitions.length)),(150,(zg x3)),(153,(zg x4))] 181 0,[.cells 26 (Ty.enc .sConfig c),.arr 182 .sBulkheadref15Piece x5],GL,0,[],zO⟩) | .l28 x0 x1 x2 x3 x4 x5=>(28,⟨mkE [(1,.ref 0 0),(3,.own 1),(4,(zg x0)),(11,(zg x1)),(149,(zg c.partitions.length)),(150,(zg x2)),(166,(zg x3)),(167,(zg x4))] 181 0,[.cells 26 (Ty.enc .sConfig c),.arr 182 .sBulkheadref15Piece x5],GL,0,[],zO⟩)
def zcE(c:za):L71->Tree L71 R71 | .l0 x0 x1 x2 =>let y4:=(⟨x0,2,(⟨3,x1,0⟩:zbx)⟩:zk);let y6:=(x2:List zk);let y1:=((y6++[y4]):List zk);let y7:=i64.wrap (x0+2);let y2:=(⟨y7,17,(⟨4,x1,0⟩:zbx)⟩:zk);let y3:=(⟨(i64.wrap (y7+17)),5,(⟨5,x1,0⟩:zbx)⟩:zk);let y5:=((y1++[y2]):List zk);.c (decide (x1<c.partitions.length)) (.g (leB ((y6.length+([y4]:List zk).length)*40) 140737488355328) <| .g (leB ((y1.length+([y2]:List zk).length)*40) 140737488355328) <| .g (leB ((y5.length+([y3]:List zk).length)*40) 140737488355328) <| .j (.l0 (i64.wrap (x0+24)) (i64.wrap (x1+1)) (y5++[y3]))) (.j (.l4 x0 0 x2)) | .l4 x0 x1 x2 =>let y1:=zu c.channels x1.toNat;let y3:=(⟨(i64.wrap (x0+2)),(zoU y1),(⟨7,x1,0⟩:zbx)⟩:zk);let y4:=(⟨x0,2,(⟨6,x1,0⟩:zbx)⟩:zk);let y5:=(x2:List zk);let y2:=((y5++[y4]):List zk);.c (decide (x1<c.channels.length)) (.g (zN x1 c.channels.length) <| .g (leB ((y5.length+([y4]:List zk).length)*40) 140737488355328) <| .g (leB ((y2.length+([y3]:List zk).length)*40) 140737488355328) <| .j (.l8 (i64.wrap (x0+(i64.wrap (2+(zoU y1))))) x1 x1 0 (y2++[y3]) (y1.kind) (y1.words) (y1.depth))) (.j (.l16 x0 x2)) | .l8 x0 x1 x2 x3 x4 x5 x6 x7=>.c (decide (x3<c.partitions.length)) (.g (zN x3 c.partitions.length) <| .j (.l12 x0 x1 x3 x2 x3 (((zb c.partitions x3.toNat).ports).length) 0 x4 x5 x6 x7)) (.j (.l4 x0 (i64.wrap (x2+1)) x4)) | .l16 x0 x1=>.c (!(((bop .rem .i64 x0 16):Int)==0)) (.j (.l16 (i64.wrap (x0+1)) x1)) (.j (.l20 x0 0 x1)) | .l12 x0 x1 x2 x3 x4 x5 x6 x7 x8 x9 x10 =>let y2:=(zb c.partitions x2.toNat).ports;let y3:=(zoT (⟨x8,x9,x10⟩:zI));let y1:=(⟨x0,y3,(⟨8,x2,x6⟩:zbx)⟩:zk);let y4:=(x7:List zk);let y5:=zbc y2 x6.toNat;.c (decide (x6<x5)) (.g (zN x2 c.partitions.length) <| .g (zN x6 y2.length) <| .c ((y5.channel:Int)==x1) (.c (!(y5.source)) (.g (leB ((y4.length+([y1]:List zk).length)*40) 140737488355328) <| .j (.l61 (i64.wrap (x0+y3)) x1 x2 x3 x4 x5 x6 (y4++[y1]) x8 x9 x10)) (.j (.l61 x0 x1 x2 x3 x4 x5 x6 x7 x8 x9 x10))) (.j (.l61 x0 x1 x2 x3 x4 x5 x6 x7 x8 x9 x10))) (.j (.l8 x0 x1 x3 (i64.wrap (x4+1)) x7 x8 x9 x10)) | .l20 x0 x1 x2=>.c (decide (x1<c.partitions.length)) (.j (.l24 x0 x1 1 x1 0 x2)) (.r x2) | .l61 x0 x1 x2 x3 x4 x5 x6 x7 x8 x9 x10=>.j (.l12 x0 x1 x2 x3 x4 x5 (i64.wrap (x6+1)) x7 x8 x9 x10) | .l24 x0 x1 x2 x3 x4 x5=>.c (decide (x4<16)) (.g (zN x1 c.partitions.length) <| .b (zkf (zb c.partitions x1.toNat) x4) fun r1=>.c r1 (.j (.l89 x0 x1 (i64.wrap (x2+1)) x3 x4 x5)) (.j (.l89 x0 x1 x2 x3 x4 x5))) (.j (.l28 x0 x1 x3 x2 0 x5)) | .l89 x0 x1 x2 x3 x4 x5=>.j (.l24 x0 x1 x2 x3 (i64.wrap (x4+1)) x5) | .l28 x0 x1 x2 x3 x4 x5 =>let y1:=(⟨x0,16,(⟨9,x1,0⟩:zbx)⟩:zk);let y2:=(x5:List zk);.c (decide (x4<x3)) (.g (leB ((y2.length+([y1]:List zk).length)*40) 140737488355328) <| .j (.l28 (i64.wrap (x0+16)) x1 x2 x3 (i64.wrap (x4+1)) (y2++[y1]))) (.j (.l20 x0 (i64.wrap (x2+1)) x5))
def zEF(c:za):Tree L71 R71:=.g (leB ((([]:List zk).length+([(⟨(i64.wrap (16*c.kernel)),2,(⟨2,0,0⟩:zbx)⟩:zk)]:List zk).length)*40) 140737488355328) <| .j (.l0 (i64.wrap ((i64.wrap (16*c.kernel))+2)) 0 (([]:List zk)++[(⟨(i64.wrap (16*c.kernel)),2,(⟨2,0,0⟩:zbx)⟩:zk)]))
def zcK(c:za):L71->Option R71:=zan (zcE c)
theorem za7(c:za)(l:L71):zcK c l=(zcE c l).run (zcK c):=zF _ l
def zjo(c:za):Option R71:=(zEF c).run (zcK c)
theorem zNC(c:za):Oks 71 [.agg (Ty.enc .sConfig c)] [] (zjo c) to71:=zM GC1 (H:=H71) zJ Tryz.func71 rfl (by kernel_rfl) (st71 c) (fun J l=>by cases l <;> kernel_rfl) (fun J=>by kernel_rfl)
abbrev R22:=(List Int) × Int
def to22(r:R22):Ans:=⟨.tup [.sl (.i .i64) r.1,(zg r.2)],[]⟩
inductive L22 where | l29 (x0:List Int)
def H22:zaa:=htt [14] [(29,⟨fgt [11] 59 0,[]⟩)] [(.slot 0,.sl (.i .i64))]
def st22(s_0:(Option zq))(p:Int)(call:Int)(x:zB):L22->Nat × St | .l29 x0=>(29,⟨mkE [(11,.own 0)] 59 0,[.arr 3 (.i .i64) x0],GL,0,[],zO⟩)
def zzd(s_0:(Option zq))(p:Int)(call:Int)(x:zB):L22->Tree L22 R22 | .l29 x0=>.r (x0,0)
def zEh(s_0:(Option zq))(p:Int)(call:Int)(x:zB):Tree L22 R22:=.c s_0.isNone (.r ([],3)) (.b (zpf s_0 p call) fun r1=>.c (!((r1:Int)==0)) (.r ([],r1)) (.g s_0.isSome <| .g (zN p ((s_0.getD default).lay.partitions).length) <| .c ((call:Int)==1) (.g s_0.isSome <| .g (zN 1 16) <| .b (znt ((s_0.getD default).ducts) p (i64.wrap x.regs.e1)) fun r2=>.c r2.2.2 (.g (leB ((([(zm ((s_0.getD default).lay.partitions) p.toNat).lock]:List Int).length+([r2.2.1]:List Int).length)*8) 140737488355328) <| .j (.l29 (([(zm ((s_0.getD default).lay.partitions) p.toNat).lock]:List Int)++[r2.2.1]))) (.j (.l29 [(zm ((s_0.getD default).lay.partitions) p.toNat).lock]))) (.c ((call:Int)==2) (.g s_0.isSome <| .g (zN 1 16) <| .b (znt ((s_0.getD default).ducts) p (i64.wrap x.regs.e1)) fun r3=>.c r3.2.2 (.g (leB ((([(zm ((s_0.getD default).lay.partitions) p.toNat).lock]:List Int).length+([r3.2.1]:List Int).length)*8) 140737488355328) <| .j (.l29 (([(zm ((s_0.getD default).lay.partitions) p.toNat).lock]:List Int)++[r3.2.1]))) (.j (.l29 [(zm ((s_0.getD default).lay.partitions) p.toNat).lock]))) (.c ((call:Int)==3) (.g s_0.isSome <| .g (zN 1 16) <| .b (znt ((s_0.getD default).ducts) p (i64.wrap x.regs.e1)) fun r4=>.c r4.2.2 (.g (leB ((([(zm ((s_0.getD default).lay.partitions) p.toNat).lock]:List Int).length+([r4.2.1]:List Int).length)*8) 140737488355328) <| .j (.l29 (([(zm ((s_0.getD default).lay.partitions) p.toNat).lock]:List Int)++[r4.2.1]))) (.j (.l29 [(zm ((s_0.getD default).lay.partitions) p.toNat).lock]))) (.j (.l29 [(zm ((s_0.getD default).lay.partitions) p.toNat).lock]))))))
def zvD(s_0:(Option zq))(p:Int)(call:Int)(x:zB):L22->Option R22:=zan (zzd s_0 p call x)
theorem zBF(s_0:(Option zq))(p:Int)(call:Int)(x:zB)(l:L22):zvD s_0 p call x l=(zzd s_0 p call x l).run (zvD s_0 p call x):=zF _ l
def zvM(s_0:(Option zq))(p:Int)(call:Int)(x:zB):Option R22:=(zEh s_0 p call x).run (zvD s_0 p call x)
theorem zMS(s_0:(Option zq))(p:Int)(call:Int)(x:zB):Oks 22 [.op .sCallsCalls s_0,(zg p),(zg call),.agg (Ty.enc .sContext x)] [] (zvM s_0 p call x) to22:=zM GC1 (H:=H22) zJ Tryz.func22 rfl (by kernel_rfl) (st22 s_0 p call x) (fun J l=>by cases l <;> kernel_rfl) (fun J=>by kernel_rfl)
abbrev zF1:=zX × (List Int) × Int × ze
def zFk(r:zF1):Ans:=⟨.tup [.agg [(zg r.1.place.lock),(zg r.1.place.save),(zg r.1.place.state),(zg r.1.place.root),.sl (.i .i64) r.1.place.tables,(zr r.1.entry),(zr r.1.most),(zr r.1.outs),.any,.any],.sl (.i .u32) r.2.1,(zg r.2.2.1)],[.cells 112 [.own 1],.arr 46 (.i .u32) r.2.2.2.words]⟩
def H161:zaa:=⟨fun _=>false,fun _=>⟨[],[]⟩,[(.cell 0 4,.sl (.i .i64)),(.cell 0 8,.un),(.cell 0 9,.un),(.slot 1,.sl (.i .u32))],G0,zO⟩
def znf(w:(Option zaf))(p:Int)(odd:Bool)(ws:List Int):Option zF1:=Tree.run0 <|
 .b (zng w p odd ws) fun r1=>
 .c (!((r1.2.1:Int)==0))
 (.r ((⟨(⟨0,0,0,0,[]⟩:zj),0,0,0,(⟨(),()⟩:zay)⟩:zX),[],r1.2.1,r1.2.2))
 (.b (zcX (some r1.2.2) r1.1.place.state 5) fun r2=>
 .c (!((r2.2:Int)==0))
 (.r ((⟨(⟨0,0,0,0,[]⟩:zj),0,0,0,(⟨(),()⟩:zay)⟩:zX),[],1,r1.2.2))
 (.b (zqS (⟨r1.1.place,r1.1.entry,r1.1.most,r1.1.outs,(⟨(),()⟩:zay)⟩:zX) r2.1) fun r3=>
 .c (!r3)
 (.r ((⟨(⟨0,0,0,0,[]⟩:zj),0,0,0,(⟨(),()⟩:zay)⟩:zX),[],231,r1.2.2))
 (.r ((⟨r1.1.place,r1.1.entry,r1.1.most,r1.1.outs,(⟨(),()⟩:zay)⟩:zX),r2.1,0,r1.2.2))))
theorem zIc(w:(Option zaf))(p:Int)(odd:Bool)(ws:List Int):Oks 161 [.op .sHealthWards w,.ref 0 0,(zg p),(avB odd)] [.cells 112 [.own 1],.arr 46 (.i .u32) ws] (znf w p odd ws) zFk:=zL GC1 (H:=H161) zJ Tryz.func161 rfl (by kernel_rfl) (fun J=>by kernel_rfl)
abbrev zGh:=(List Int) × Int
def zPX(r:zGh):Ans:=⟨.tup [.own 0,(zg r.2)],[.arr 46 (.i .u32) r.1]⟩
def H226:zaa:=⟨fun _=>false,fun _=>⟨[],[]⟩,[(.slot 0,.own 46 (.i .u32))],G0,zO⟩
def zcY(m:(Option ze))(at_1:Int)(words:Int)(head:Int):Option zGh:=Tree.run0 <|
 .b (zcX m at_1 (i64.wrap (head+words))) fun r1=>
 .c (!((r1.2:Int)==0))
 (.r ([],r1.2))
 (.b (znm r1.1 head) fun r2=>
 .c (!r2.2)
 (.r ([],191))
 (.r (r2.1,0)))
theorem zIT(m:(Option ze))(at_1:Int)(words:Int)(head:Int):Oks 226 [.op .sMemMemory m,(zg at_1),(zg words),(zg head)] [] (zcY m at_1 words head) zPX:=zL GC1 (H:=H226) zJ Tryz.func226 rfl (by kernel_rfl) (fun J=>by kernel_rfl)
abbrev R172:=Bool
def zPK(r:R172):Ans:=⟨(avB r),[]⟩
def zex(f:zy)(m:(Option ze))(at_2:Int)(head:Int):Option R172:=Tree.run0 <|
 .b (zcX m at_2 (zeH f head)) fun r1=>
 .r ((r1.2:Int)==0)
theorem zIn(f:zy)(m:(Option ze))(at_2:Int)(head:Int):Oks 172 [.agg [(zg f.words),(zg f.depth)],.op .sMemMemory m,(zg at_2),(zg head)] [] (zex f m at_2 head) zPK:=zL GC1 (H:=H0) zJ Tryz.func172 rfl (by kernel_rfl) (fun J=>by kernel_rfl)
abbrev R47:=zaQ × Int
def to47(r:R47):Ans:=⟨.tup [.agg [(zg r.1.barrier),.own 0,.own 1,(zg r.1.end_)],(zg r.2)],[.row 140 .sPartitionPlace [(4,3)] [] r.1.partitions,.row 189 .sChannelPlace [(4,209)] [] r.1.channels]⟩
inductive L47 where | l0 (x0:Int) (x1:Int) (x2:List zj) | l4 (x0:Int) (x1:Int) (x2:List zj) (x3:List zE) | l8 (v0:R78) (x0:Int) (x1:Int) (x2:Int) (x3:List zj) (x4:List zE) (x5:Int) (x6:Int) (x7:Int) (x8:Int) (x9:Int) (x10:List zaW) | l12 (x0:Int) (x1:List zj) (x2:List zE) (x3:Int) | l16 (v0:R81) (x0:Int) (x1:Int) (x2:Int) (x3:List zj) (x4:List zE) (x5:Int)
def H47:zaa:=⟨fun n=>[].any (Nat.beq n),zgf [(0,⟨fgt [1,2,4,5,29,30] 148 0,[(.box 5 1,.own 140 .sPartitionPlace)]⟩),(4,⟨fgt [1,2,4,5,46,47,48] 148 0,[(.box 5 2,.own 189 .sChannelPlace)]⟩),(8,⟨fgt [1,2,4,5,7,10,46,47,48,74,75,76] 148 0,[(.box 10 4,.own 209 .sDestPlace),(.box 5 2,.own 189 .sChannelPlace)]⟩),(12,⟨fgt [2,5,13,109,110,111] 148 0,[(.box 5 2,.own 189 .sChannelPlace)]⟩),(16,⟨fgt [2,5,13,14,109,110,111,124,125] 148 0,[]⟩)],[(.cell 0 1,.own 140 .sPartitionPlace),(.cell 0 2,.own 189 .sChannelPlace)],G0,(fun e=>match e with | 140=>[(4,3)] | 189=>[(4,209)] | _=>[])⟩
def st47(c:za):L47->Nat × St | .l0 x0 x1 x2=>(0,⟨mkE [(1,.ref 0 0),(2,.ref 1 0),(4,.fn (.func 129) [] [.ref 2 0]),(5,.ref 3 0),(29,(zg c.partitions.length)),(30,(zg x0))] 148 0,[.cells 26 (Ty.enc .sConfig c),.cells 104 [(zg 0),.v (.slice none 0 0),.v (.slice none 0 0),(zg 0)],.cells 3 [(zg x1)],.cells 104 [(zg ((zb8 2 (znY (i64.wrap (c.kernel*16)))).1)),.own 4,.v (.slice none 0 0),(zg 0)],.row 140 .sPartitionPlace [(4,3)] [] x2],GL,0,[],(fun e=>match e with | 140=>[(4,3)] | 189=>[(4,209)] | _=>[])⟩) | .l4 x0 x1 x2 x3=>(4,⟨mkE [(1,.ref 0 0),(2,.ref 1 0),(4,.fn (.func 129) [] [.ref 2 0]),(5,.ref 3 0),(46,.sl .sChannel c.channels),(47,(zg c.channels.length)),(48,(zg x0))] 148 0,[.cells 26 (Ty.enc .sConfig c),.cells 104 [(zg 0),.v (.slice none 0 0),.v (.slice none 0 0),(zg 0)],.cells 3 [(zg x1)],.cells 104 [(zg ((zb8 2 (znY (i64.wrap (c.kernel*16)))).1)),.own 4,.own 5,(zg 0)],.row 140 .sPartitionPlace [(4,3)] [] x2,.row 189 .sChannelPlace [(4,209)] [] x3],GL,0,[],(fun e=>match e with | 140=>[(4,3)] | 189=>[(4,209)] | _=>[])⟩) | .l8 v0 x0 x1 x2 x3 x4 x5 x6 x7 x8 x9 x10=>(8,⟨mkE [(1,.ref 0 0),(2,.ref 1 0),(4,.fn (.func 129) [] [.ref 2 0]),(5,.ref 3 0),(7,.ref 6 0),(10,.ref 7 0),(46,.sl .sChannel c.channels),(47,(zg c.channels.length)),(48,(zg x0)),(74,.own 9),(75,(zg v0.2.length)),(76,(zg x1))] 148 0,[.cells 26 (Ty.enc .sConfig c),.cells 104 [(zg 0),.v (.slice none 0 0),.v (.slice none 0 0),(zg 0)],.cells 3 [(zg x2)],.cells 104 [(zg ((zb8 2 (znY (i64.wrap (c.kernel*16)))).1)),.own 4,.own 5,(zg 0)],.row 140 .sPartitionPlace [(4,3)] [] x3,.row 189 .sChannelPlace [(4,209)] [] x4,.cells 76 [(zg x5),(zg x6),(zg x7)],.cells 189 [(zg x8),(zg x9),(zg ((z7 v0.1 0).partition)),(zg ((z7 v0.1 0).port)),.own 8],.arr 209 .sDestPlace x10,.arr 207 .sLayoutEnd v0.2],GL,0,[],(fun e=>match e with | 140=>[(4,3)] | 189=>[(4,209)] | _=>[])⟩) | .l12 x0 x1 x2 x3=>(12,⟨mkE [(2,.ref 0 0),(5,.ref 1 0),(13,.fn (.func 129) [] [.ref 4 0]),(109,.sl .sPartition c.partitions),(110,(zg c.partitions.length)),(111,(zg x0))] 148 0,[.cells 104 [(zg 0),.v (.slice none 0 0),.v (.slice none 0 0),(zg 0)],.cells 104 [(zg ((zb8 2 (znY (i64.wrap (c.kernel*16)))).1)),.own 2,.own 3,(zg 0)],.row 140 .sPartitionPlace [(4,3)] [] x1,.row 189 .sChannelPlace [(4,209)] [] x2,.cells 3 [(zg x3)]],GL,0,[],(fun e=>match e with | 140=>[(4,3)] | 189=>[(4,209)] | _=>[])⟩) | .l16 v0 x0 x1 x2 x3 x4 x5=>(16,⟨mkE [(2,.ref 0 0),(5,.ref 1 0),(13,.fn (.func 129) [] [.ref 4 0]),(14,(zg x0)),(109,.sl .sPartition c.partitions),(110,(zg c.partitions.length)),(111,(zg x1)),(124,(zg v0)),(125,(zg x2))] 148 0,[.cells 104 [(zg 0),.v (.slice none 0 0),.v (.slice none 0 0),(zg 0)],.cells 104 [(zg ((zb8 2 (znY (i64.wrap (c.kernel*16)))).1)),.own 2,.own 3,(zg 0)],.row 140 .sPartitionPlace [(4,3)] [] x3,.row 189 .sChannelPlace [(4,209)] [] x4,.cells 3 [(zg x5)]],GL,0,[],(fun e=>match e with | 140=>[(4,3)] | 189=>[(4,209)] | _=>[])⟩)
def zfQ(c:za):L47->Tree L47 R47 | .l0 x0 x1 x2 =>let y2:=zb8 17 ((zb8 2 x1).2);let y1:=(⟨(zb8 2 x1).1,y2.1,(zb8 5 (y2.2)).1,0,[]⟩:zj);let y3:=(x2:List zj);.c (decide (x0<c.partitions.length)) (.g (leB ((y3.length+([y1]:List zj).length)*56) 140737488355328) <| .j (.l0 (i64.wrap (x0+1)) ((zb8 5 (y2.2)).2) (y3++[y1]))) (.j (.l4 0 x1 x2 [])) | .l4 x0 x1 x2 x3 =>let y1:=zu c.channels x0.toNat;let y2:=zb8 (zqt y1) ((zb8 2 x1).2);.c (decide (x0<c.channels.length)) (.g (zN x0 c.channels.length) <| .b (zpi c x0) fun r2=>.g (zN 0 r2.1.length) <| .g (zN 0 r2.1.length) <| .j (.l8 r2 x0 0 (y2.2) x2 x3 (y1.kind) (y1.words) (y1.depth) ((zb8 2 x1).1) (y2.1) [])) (.j (.l12 0 x2 x3 (znY (bop .quo .i64 (i64.wrap ((i64.wrap ((zb8 0 x1).1+16))-1)) 16)))) | .l8 v0 x0 x1 x2 x3 x4 x5 x6 x7 x8 x9 x10 =>let y3:=(zb8 (zBC (⟨x5,x6,x7⟩:zI)) x2);let y4:=z7 v0.2 x1.toNat;let y1:=(⟨y4.partition,y4.port,y3.1⟩:zaW);let y5:=(x4:List zE);let y6:=(x10:List zaW);let y7:=z7 v0.1 0;let y2:=(⟨x8,x9,y7.partition,y7.port,x10⟩:zE);.c (decide (x1<v0.2.length)) (.g (zN x1 v0.2.length) <| .g (leB ((y6.length+([y1]:List zaW).length)*24) 140737488355328) <| .j (.l8 v0 x0 (i64.wrap (x1+1)) (y3.2) x3 x4 x5 x6 x7 x8 x9 (y6++[y1]))) (.g (leB ((y5.length+([y2]:List zE).length)*56) 140737488355328) <| .j (.l4 (i64.wrap (x0+1)) x2 x3 (y5++[y2]))) | .l12 x0 x1 x2 x3 =>let y1:=zm x1 x0.toNat;.c (decide (x0<c.partitions.length)) (.g (zN x0 c.partitions.length) <| .g (zN x0 x1.length) <| .b (zvU (zb c.partitions x0.toNat)) fun r3=>.j (.l16 r3 x0 x0 0 (List.set x1 x0.toNat (⟨y1.lock,y1.save,y1.state,(zb8 1 x3).1,y1.tables⟩:zj)) x2 ((zb8 1 x3).2))) (.r ((⟨(zb8 2 (znY (i64.wrap (c.kernel*16)))).1,x1,x2,(zb8 0 x3).1⟩:zaQ),0)) | .l16 v0 x0 x1 x2 x3 x4 x5 =>let y1:=zm x3 x0.toNat;let y2:=(y1.tables:List Int);let y3:=zb8 1 x5;.c (decide (x2<v0)) (.g (zN x0 x3.length) <| .g (leB ((y2.length+([y3.1]:List Int).length)*8) 140737488355328) <| .g (zN x0 x3.length) <| .g (Nat.beq x0.toNat x0.toNat) <| .j (.l16 v0 x0 x1 (i64.wrap (x2+1)) (List.set x3 x0.toNat (⟨y1.lock,y1.save,y1.state,y1.root,(y2++[y3.1])⟩:zj)) x4 (y3.2))) (.j (.l12 (i64.wrap (x1+1)) x3 x4 x5))
def zEr(c:za):Tree L47 R47:=.b (zsW c) fun r1=>.c (!r1) (.r ((⟨0,[],[],0⟩:zaQ),150)) (.j (.l0 0 ((zb8 2 (znY (i64.wrap (c.kernel*16)))).2) []))
def zcJ(c:za):L47->Option R47:=zan (zfQ c)
theorem zcu(c:za)(l:L47):zcJ c l=(zfQ c l).run (zcJ c):=zF _ l
def zcZ(c:za):Option R47:=(zEr c).run (zcJ c)
theorem zNe(c:za):Oks 47 [.agg (Ty.enc .sConfig c)] [] (zcZ c) to47:=zM GC1 (H:=H47) zJ Tryz.func47 rfl (by kernel_rfl) (st47 c) (fun J l=>by cases l <;> kernel_rfl) (fun J=>by kernel_rfl)
abbrev zyx:=Int
def zPg(r:zyx):Ans:=⟨(zg r),[]⟩
inductive zwt where | l0 (x0:Int) | l4 (x0:Int) | l8 (x0:Int) (x1:Int)
def H136:zaa:=htt [] [(0,⟨fgt [1,2,3,7,8] 91 0,[]⟩),(4,⟨fgt [1,2,3,7,10] 91 0,[]⟩),(8,⟨fgt [1,2,3,7,10,11] 91 0,[]⟩)] []
def zOo(c:za)(p:Int)(k:Int):zwt->Nat × St | .l0 x0=>(0,⟨mkE [(1,(zg p)),(2,(zg k)),(3,.ref 0 0),(7,.ref 1 0),(8,(zg x0))] 91 0,[.cells 26 (Ty.enc .sConfig c),.cells 138 (Ty.enc .sRegion (zh ((zb c.partitions p.toNat).regions) k.toNat))],GL,0,[],zO⟩) | .l4 x0=>(4,⟨mkE [(1,(zg p)),(2,(zg k)),(3,.ref 0 0),(7,.ref 1 0),(10,(zg x0))] 91 0,[.cells 26 (Ty.enc .sConfig c),.cells 138 (Ty.enc .sRegion (zh ((zb c.partitions p.toNat).regions) k.toNat))],GL,0,[],zO⟩) | .l8 x0 x1=>(8,⟨mkE [(1,(zg p)),(2,(zg k)),(3,.ref 0 0),(7,.ref 1 0),(10,(zg x0)),(11,(zg x1))] 91 0,[.cells 26 (Ty.enc .sConfig c),.cells 138 (Ty.enc .sRegion (zh ((zb c.partitions p.toNat).regions) k.toNat))],GL,0,[],zO⟩)
def zeK(c:za)(p:Int)(k:Int):zwt->Tree zwt zyx | .l0 x0 =>let y1:=(zb c.partitions p.toNat).regions;let y2:=zh y1 x0.toNat;let y3:=zh y1 k.toNat;.c (decide (x0<k)) (.g (zN p c.partitions.length) <| .g (zN x0 y1.length) <| .c (zoV (y3.page) (y3.pages) (y2.page) (y2.pages)) (.r 410) (.j (.l0 (i64.wrap (x0+1))))) (.j (.l4 0)) | .l4 x0=>.c (decide (x0<=p)) (.j (.l8 x0 0)) (.r 0) | .l8 x0 x1 =>let y2:=(zb c.partitions x0.toNat).regions;let y3:=zh ((zb c.partitions p.toNat).regions) k.toNat;let y4:=zN x0 c.partitions.length;let y5:=i64.wrap (x0+1);let y6:=i64.wrap (x1+1);let y7:=zh y2 x1.toNat;let y1:=zoV (y3.frame) (y3.pages) (y7.frame) (y7.pages);.g y4 <| .c (decide (x1<y2.length)) (.c (x0==p) (.c (decide (x1>=k)) (.j (.l4 y5)) (.g y4 <| .g (zN x1 y2.length) <| .c y1 (.r 411) (.j (.l8 x0 y6)))) (.g y4 <| .g (zN x1 y2.length) <| .c y1 (.r 411) (.j (.l8 x0 y6)))) (.j (.l4 y5))
def zzG(c:za)(p:Int)(k:Int):Tree zwt zyx:=.g (zN p c.partitions.length) <| .g (zN k ((zb c.partitions p.toNat).regions).length) <| .c (!(zsf c (zh ((zb c.partitions p.toNat).regions) k.toNat))) (.r 409) (.j (.l0 0))
def zcy(c:za)(p:Int)(k:Int):zwt->Option zyx:=zan (zeK c p k)
theorem zcH(c:za)(p:Int)(k:Int)(l:zwt):zcy c p k l=(zeK c p k l).run (zcy c p k):=zF _ l
def zqL(c:za)(p:Int)(k:Int):Option zyx:=(zzG c p k).run (zcy c p k)
theorem zHN(c:za)(p:Int)(k:Int):Oks 136 [.agg (Ty.enc .sConfig c),(zg p),(zg k)] [] (zqL c p k) zPg:=zM GC1 (H:=H136) zJ Tryz.func136 rfl (by kernel_rfl) (zOo c p k) (fun J l=>by cases l <;> kernel_rfl) (fun J=>by kernel_rfl)
abbrev zwZ:=ze
def zFp(r:zwZ):Ans:=⟨.tup [],[.cells 112 [.own 1],.arr 46 (.i .u32) r.words]⟩
inductive zwJ where | l0 (x0:Int) (x1:List Int)
def H174:zaa:=htt [] [(0,⟨fgt [1,2,4,5,8,10,23,24,25] 61 0,[]⟩)] []
def zOE(f:zy)(pl:Int)(row:zU)(hd:(List Int))(ws:List Int):zwJ->Nat × St | .l0 x0 x1=>(0,⟨mkE [(1,.ref 0 0),(2,(zg pl)),(4,.sl (.i .u32) hd),(5,.ref 2 0),(8,.ref 3 0),(10,.own 4),(23,.sl (.sl (.i .u32)) row.messages),(24,(zg row.messages.length)),(25,(zg x0))] 61 0,[.cells 112 [.own 1],.arr 46 (.i .u32) ws,.cells 299 [(zg f.words),(zg f.depth)],.cells 301 (Ty.enc .sQueueRow row),.arr 46 (.i .u32) x1],GL,2,[],zO⟩)
def zpR(f:zy)(pl:Int)(row:zU)(hd:(List Int))(ws:List Int):zwJ->Tree zwJ zwZ | .l0 x0 x1 =>let y1:=i64.wrap (hd.length+(i64.wrap ((dv .rem .i64 (i64.wrap ((i64.wrap row.first)+x0)) f.depth)*(zmM f))));let y2:=List.set x1 (y1.toNat) (u32.wrap ((zW row.messages x0.toNat).length));let y3:=i64.wrap (y1+1);.c (decide (x0<row.messages.length)) (.g (zN x0 row.messages.length) <| .c (decide ((f.depth:Int)=0)) (.n) (.g (zN y1 x1.length) <| .g (inS y3 (y2.length) y2.length) <| .j (.l0 (i64.wrap (x0+1)) (zcA y2 (y3.toNat) (List.take ((y2.length:Int).toNat-y3.toNat) (zW row.messages x0.toNat:List Int)))))) (.b (zeV pl x1 ws) fun r1=>.r r1.2)
def zzR(f:zy)(pl:Int)(row:zU)(hd:(List Int))(ws:List Int):Tree zwJ zwZ:=.g (decide (((zeH f hd.length):Int)=(zeH f hd.length))&&decide (0<=(zeH f hd.length))&&leB ((zeH f hd.length).toNat*4) 140737488355328) <| .j (.l0 0 (zcA (List.replicate (zeH f hd.length).toNat (0:Int)) 0 (List.take ((List.replicate (zeH f hd.length).toNat (0:Int)).length) (hd:List Int))))
def zmV(f:zy)(pl:Int)(row:zU)(hd:(List Int))(ws:List Int):zwJ->Option zwZ:=zan (zpR f pl row hd ws)
theorem zo6(f:zy)(pl:Int)(row:zU)(hd:(List Int))(ws:List Int)(l:zwJ):zmV f pl row hd ws l=(zpR f pl row hd ws l).run (zmV f pl row hd ws):=zF _ l
def zeU(f:zy)(pl:Int)(row:zU)(hd:(List Int))(ws:List Int):Option zwZ:=(zzR f pl row hd ws).run (zmV f pl row hd ws)
theorem zIp(f:zy)(pl:Int)(row:zU)(hd:(List Int))(ws:List Int):Oks 174 [.agg [(zg f.words),(zg f.depth)],.ref 0 0,(zg pl),.agg (Ty.enc .sQueueRow row),.sl (.i .u32) hd] [.cells 112 [.own 1],.arr 46 (.i .u32) ws] (zeU f pl row hd ws) zFp:=zM GC1 (H:=H174) zJ Tryz.func174 rfl (by kernel_rfl) (zOE f pl row hd ws) (fun J l=>by cases l <;> kernel_rfl) (fun J=>by kernel_rfl)
abbrev R170:=Int × Int × Int
def zPI(r:R170):Ans:=⟨.tup [(zg r.1),(zg r.2.1),(zg r.2.2)],[]⟩
def zkj(m:(Option ze))(frame:Int)(i:Int):Option R170:=Tree.run0 <|
 .b (zey m (i64.wrap ((i64.wrap (frame*16))+i))) fun r1=>
 .c (!((r1.2:Int)==0))
 (.r (0,0,r1.2))
 (.c (!((zk7 r1.1).2.2))
 (.r (0,0,92))
 (.b (zki m ((zk7 r1.1).1)) fun r2=>
 .c (!r2)
 (.r (0,0,91))
 (.r ((zk7 r1.1).1,(zk7 r1.1).2.1,0))))
theorem zIl(m:(Option ze))(frame:Int)(i:Int):Oks 170 [.op .sMemMemory m,(zg frame),(zg i)] [] (zkj m frame i) zPI:=zL GC1 (H:=H0) zJ Tryz.func170 rfl (by kernel_rfl) (fun J=>by kernel_rfl)
abbrev R122:=zx
def zO7(r:R122):Ans:=⟨.agg [(zg r.e),(zg r.where_.first),(zg r.where_.second)],[]⟩
def zqF(a:za)(a_1:Int):Option R122:=Tree.run0 <|
 .b (zqG a a_1) fun r1=>
 .r r1
theorem zAX(a:za)(a_1:Int):Oks 122 [.op .sConfig (some a),.op (.i .i64) (some a_1)] [] (zqF a a_1) zO7:=zL GC1 (H:=H0) zJ Tryz.func122 rfl (by kernel_rfl) (fun J=>by kernel_rfl)
abbrev R124:=zx
def zO9(r:R124):Ans:=⟨.agg [(zg r.e),(zg r.where_.first),(zg r.where_.second)],[]⟩
def zqH(a:za)(a_1:Int):Option R124:=Tree.run0 <|
 .b (zqI a a_1) fun r1=>
 .r r1
theorem zAY(a:za)(a_1:Int):Oks 124 [.op .sConfig (some a),.op (.i .i64) (some a_1)] [] (zqH a a_1) zO9:=zL GC1 (H:=H0) zJ Tryz.func124 rfl (by kernel_rfl) (fun J=>by kernel_rfl)
end Go.Proofs.YtgajeebphoiphaaGreatDoor
end
