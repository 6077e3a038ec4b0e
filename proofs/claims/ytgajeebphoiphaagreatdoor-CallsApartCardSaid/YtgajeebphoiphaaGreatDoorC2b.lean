import Derived.Test.YtgajeebphoiphaaGreatDoorSF
import Derived.Test.YtgajeebphoiphaaGreatDoorRows
set_option linter.unusedVariables false
set_option linter.unusedSimpArgs false
noncomputable section
open Go.IntKind (i64 u32)
namespace Go.Proofs.YtgajeebphoiphaaGreatDoor
def zN:TypeId->List (Nat × TypeId):=fun _=>[]
open Go.RowKit
noncomputable abbrev Pr:Program:=Tryz.prog
def nowhere:za0:=⟨-1,-1⟩
def fine:zx:=⟨0,⟨0,0⟩⟩
def GL:List AV:=[.el .sAdmitFound [fine] 0 0,.el .sWhere [nowhere] 0 0]
def lk:List (Nat × AV)->Nat->AV
 | [],_=>.undef
 | (j,x) :: r,i=>match Nat.beq j i with | true=>x | false=>lk r i
def mkE(l:List (Nat × AV)):Nat->Nat->List AV
 | 0,_=>[]
 | n+1,i=>lk l i :: mkE l n (i+1)
def fgt(keep:List Nat):Nat->Nat->List Nat
 | 0,_=>[]
 | n+1,i=>match keep.any (Nat.beq i)with | true=>fgt keep n (i+1) | false=>i :: fgt keep n (i+1)
def zfi:List (Nat × Hd)->Nat->Hd
 | [],_=>⟨[],[]⟩
 | (j,x) :: r,i=>match Nat.beq j i with | true=>x | false=>zfi r i
def zqP{L R:Type}(bod:(L->Option R)->L->Option R):Nat->L->Option R
 | 0,_=>none
 | n+1,l=>bod (zqP bod n) l
def Le{R:Type}(a b:Option R):Prop:=∀ r,a=some r->b=some r
open Classical in
noncomputable def lim{R:Type}(f:Nat->Option R):Option R:=if h : ∃ n r,f n=some r then f h.choose else none
def Chain{R:Type}(f:Nat->Option R):Prop:=∀ n,Le (f n) (f (n+1))
theorem Chain.le{R:Type}{f:Nat->Option R}(h:Chain f){n m:Nat}(hm:n<=m):Le (f n) (f m):=by
 induction hm with
 | refl=>exact fun r h=>h
 | step _ ih=>exact fun r hr=>h _ r (ih r hr)
theorem zsg{R:Type}{f:Nat->Option R}(h:Chain f){n:Nat}{r:R}(hr:f n=some r):lim f=some r:=by
 have hex : ∃ n r,f n=some r:=⟨n,r,hr⟩
 unfold lim
 rw[dif_pos hex]
 obtain ⟨r',h'⟩:=hex.choose_spec
 rcases Nat.le_total n hex.choose with h1 | h1
 . exact h.le h1 r hr
 . have:=h.le h1 r' h'
   rw[hr]at this
   rw[h',this]
theorem zvB{R:Type}{f:Nat->Option R}{r:R}(h:lim f=some r) : ∃ n,f n=some r:=by
 unfold lim at h
 split at h
 . exact⟨_,h⟩
 . cases h
structure CT{L R S:Type}(t:(L->Option R)->Option S):Prop where
 mono : ∀ j j',(∀ l,Le (j l) (j' l))->Le (t j) (t j')
 fin : ∀ s:Nat->L->Option R,(∀ l,Chain fun n=>s n l)->∀ r,t (fun l=>lim fun n=>s n l)=some r->∃ n,t (s n)=some r
theorem CT.const{L R S:Type}(x:Option S):CT (L:=L) (R:=R) fun _=>x:=⟨fun _ _ _ _ h=>h,fun _ _ _ h=>⟨0,h⟩⟩
theorem CT.jump{L R:Type}(l:L):CT (R:=R) fun j=>j l:=⟨fun _ _ h=>h l,fun _ _ _ h=>zvB h⟩
theorem CT.cond{L R S:Type}{c:Bool}{a b:(L->Option R)->Option S}(ha:CT a)(hb:CT b):CT fun j=>cond c (a j) (b j):=by
 cases c
 . exact hb
 . exact ha
section
variable {L R:Type} {bod:(L->Option R)->L->Option R}
theorem zic(h : ∀ l,CT fun j=>bod j l) : ∀ n l,Le (zqP bod n l) (zqP bod (n+1) l)
 | 0,l=>fun r hr=>by cases hr
 | n+1,l=>(h l).mono _ _ (zic h n)
noncomputable def lfp(bod:(L->Option R)->L->Option R)(l:L):Option R:=lim fun n=>zqP bod n l
theorem zHU(h : ∀ l,CT fun j=>bod j l)(l:L):lfp bod l=bod (lfp bod) l:=by
 have hc : ∀ l,Chain fun n=>zqP bod n l:=fun l n=>zic h n l
 cases hr:bod (lfp bod) l with
 | some r=>
  obtain ⟨n,hn⟩:=(h l).fin (zqP bod) hc r hr
  exact zsg (hc l) (n:=n+1) hn
 | none=>
  cases hl:lfp bod l with
  | none=>rfl
  | some r=>
   exfalso
   obtain ⟨n,hn⟩:=zvB hl
   cases n with
   | zero=>cases hn
   | succ n=>
    have:=(h l).mono (zqP bod n) (lfp bod) (fun l' r' h'=>zsg (hc l') h') r hn
    rw[hr]at this
    cases this
end
inductive Tree(L R:Type):Type 1 where
 | r (x:R) | j (l:L) | n
 | g (b:Bool) (x:Tree L R)
 | c (b:Bool) (x y:Tree L R)
 | b {S:Type} (o:Option S) (k:S->Tree L R)
 | o {S:Type} (o:Option S) (k:S->Tree L R) (z:Tree L R)
section
variable {L R:Type}
def Tree.run(j:L->Option R):Tree L R->Option R
 | .r x=>some x
 | .j l=>j l
 | .n=>none
 | .g q x=>cond q (x.run j) none
 | .c q x y=>cond q (x.run j) (y.run j)
 | .b u k=>u.bind fun s=>(k s).run j
 | .o u k z=>orB u (fun s=>(k s).run j) (z.run j)
noncomputable def Tree.runA(to:R->Ans)(j:L->Option Ans)(t:Tree L R):Option Ans:=
 Tree.rec (motive:=fun _=>Option Ans) (fun x=>some (to x)) j none (fun b _ x=>cond b x none) (fun b _ _ x y=>cond b x y) (fun o _ k=>orB o k none) (fun o _ _ k z=>orB o k z) t
theorem Tree.run_map(to:R->Ans)(f:L->Option R) : ∀ t:Tree L R,t.runA to (fun l=>(f l).map to)=(t.run f).map to
 | .r _=>rfl
 | .j _=>rfl
 | .n=>rfl
 | .g q x=>by
  show cond q (x.runA to _) none=_
  rw[run_map to f x];cases q <;> rfl
 | .c q x y=>by
  show cond q (x.runA to _) (y.runA to _)=_
  rw[run_map to f x,run_map to f y];cases q <;> rfl
 | .b u k=>by
  show orB u (fun s=>(k s).runA to _) none=_
  cases u with
  | none=>rfl
  | some s=>exact run_map to f (k s)
 | .o u k z=>by
  show orB u (fun s=>(k s).runA to _) (z.runA to _)=_
  cases u with
  | none=>exact run_map to f z
  | some s=>exact run_map to f (k s)
theorem Tree.ct : ∀ t:Tree L R,CT fun j=>t.run j
 | .r x=>CT.const (some x)
 | .j l=>CT.jump l
 | .n=>CT.const none
 | .g q x=>CT.cond (ct x) (CT.const none)
 | .c q x y=>CT.cond (ct x) (ct y)
 | .b u k=>by
  cases u with
  | none=>exact CT.const none
  | some s=>exact ct (k s)
 | .o u k z=>by
  cases u with
  | none=>exact ct z
  | some s=>exact ct (k s)
def Tree.tot:Tree L R->Bool
 | .r _=>true
 | .c _ x y=>x.tot&&y.tot
 | _=>false
def Tree.val[Inhabited R]:Tree L R->R
 | .r x=>x
 | .c q x y=>cond q x.val y.val
 | _=>default
theorem Tree.run_val[Inhabited R]{f:L->Option R} : ∀ {t:Tree L R},t.tot=true->t.run f=some t.val
 | .r _,_=>rfl
 | .c q x y,h=>by
  simp only[tot,qH]at h
  show cond q (x.run f) (y.run f)=some (cond q x.val y.val)
  rw[run_val h.1,run_val h.2];cases q <;> rfl
 | .j _,h=>by cases h
 | .n,h=>by cases h
 | .g _ _,h=>by cases h
 | .b _ _,h=>by cases h
 | .o _ _ _,h=>by cases h
noncomputable def zal(bod:L->Tree L R):L->Option R:=lfp fun j l=>(bod l).run j
theorem zE(bod:L->Tree L R)(l:L):zal bod l=(bod l).run (zal bod):=zHU (fun l=>(bod l).ct) l
abbrev Tree.run0(t:Tree Empty R):Option R:=t.run fun _=>none
end
structure GK where
 G:Gam
 ok:GOk Pr GL G
noncomputable def K0:GK:=⟨G0,zJ⟩
def Oks(f:FuncId)(args:List AV)(hp:List Blk){R:Type}(o:Option R)(to:R->Ans):Prop:=zip Pr f/\∀ x,o=some x->Okay Pr GL f args hp (to x)
def H0:zab:=⟨fun _=>false,fun _=>⟨[],[]⟩,[],G0,zN⟩
section
variable (K:GK) {H:zab} (hD:zrx (CD Pr) Pr GL H.dfr) {f:FuncId} {fn:Func} {c:Code} (hf:Pr.funcs[f]?=some fn) (hb:fn.body=some c) (hu:(okL H 0 c&&!(fn.name == "runtime.NumGoroutine"))=true)
include hf hb hu
theorem zqq:zip Pr f:=⟨fn,hf,by simpa using (Bool.and_eq_true_iff.1 hu).2,by rw[hb];rfl⟩
include hD
theorem zL{R L:Type}{args:List AV}{hp:List Blk}{to:R->Ans}(st:L->Nat × St){bod:L->Tree L R}{ent:Tree L R}
 (head : ∀ (J:Jmp) l,stepAt Pr K.G H J (st l).1 0 (zc9 fn) (fin Pr H fn) (st l).2=(bod l).runA to fun l=>J (st l).1 (st l).2)
 (run : ∀ J:Jmp,zx8 Pr K.G H J GL fn args hp=ent.runA to fun l=>J (st l).1 (st l).2):Oks f args hp (ent.run (zal bod)) to:=by
 refine⟨zqq hf hb hu,fun x hx=>?_⟩
 obtain ⟨n,hn⟩:=ent.ct.fin (zqP fun j l=>(bod l).run j) (fun l n=>zic (fun l=>(bod l).ct) n l) x hx
 have hs : ∀ (n:Nat) (l:L),zx9 Pr K.G H fn n (st l).1 (st l).2=(zqP (fun j l=>(bod l).run j) n l).map to:=by
  intro n
  induction n with
  | zero=>exact fun l=>rfl
  | succ n ih=>
   intro l
   refine(head _ l).trans ?_
   rw[show(fun l=>zx9 Pr K.G H fn n (st l).1 (st l).2)=_ from funext ih]
   exact Tree.run_map to _ (bod l)
 refine zgt (H:=H) K.ok hD hf hb (Bool.and_eq_true_iff.1 hu).1 n ((run _).trans ?_)
 rw[show(fun l=>zx9 Pr K.G H fn n (st l).1 (st l).2)=_ from funext (hs n),Tree.run_map,hn]
 rfl
theorem zM{R:Type}{args:List AV}{hp:List Blk}{to:R->Ans}{ent:Tree Empty R}(run : ∀ J:Jmp,zx8 Pr K.G H J GL fn args hp=ent.runA to fun _=>none):Oks f args hp ent.run0 to:=by
 refine⟨zqq hf hb hu,fun x hx=>?_⟩
 refine zgt (H:=H) K.ok hD hf hb (Bool.and_eq_true_iff.1 hu).1 0 ((run _).trans ?_)
 exact(Tree.run_map to (fun _=>none) ent).trans (by rw[show ent.run (fun _=>none)=some x from hx];rfl)
theorem zbx{R:Type}[Inhabited R]{args:List AV}{hp:List Blk}{to:R->Ans}{ent:Tree Empty R}(ht:ent.tot=true)(run : ∀ J:Jmp,zx8 Pr K.G H J GL fn args hp=ent.runA to fun _=>none):Oks f args hp (some ent.val) to:=by
 rw[← Tree.run_val (f:=fun _=>none) ht]
 exact zM K hD hf hb hu run
theorem zbj{R:Type}{args:List AV}{hp:List Blk}{to:R->Ans}{x:R}(run : ∀ J:Jmp,zx8 Pr K.G H J GL fn args hp=some (to x)):Oks f args hp (some x) to:=by
 refine⟨zqq hf hb hu,fun y hy=>?_⟩
 cases hy
 exact zgt (H:=H) K.ok hD hf hb (Bool.and_eq_true_iff.1 hu).1 0 (run _)
end
def Has(x:AV):Prop:=∃ F w β y,V F w β x y
theorem Has.len{t:Ty}{xs:List t.T}(h:Has (.sl t xs)):xs.length<=140737488355328:=by
 obtain ⟨F,w,β,y,h⟩:=h
 cases h
 . simp
 . assumption
theorem Has.cell{cs:List AV}(h:Has (.agg cs))(j:Nat)(hj:j<cs.length):Has (cs.getD j .undef):=by
 obtain ⟨F,w,β,y,h⟩:=h
 cases h with | agg _ ys hl hc=>exact⟨F,w,β,_,hc j hj⟩
theorem zam(n:Int)(h0 : -9223372036854775808<=n)(h1:n<9223372036854775808):i64.wrap n=n:=by
 simp[IntKind.wrap,IntKind.bits,IntKind.signed];omega
theorem zo{i:Nat}{n:Nat}(h:i<n):zO (i:Int) n=true:=inR_iff.2 ⟨by omega,by omega⟩
noncomputable def mn(a b:Int):Int:=match zeU Pr (Builtin.min_ #[3,3] 3 #[.int .i64 a,.int .i64 b])with | some (.int _ n)=>n | _=>0
def zcB(s:ByteArray)(i:Nat):Int:=(((s.data.getD i 0).toNat:Nat):Int)
noncomputable def bop(op:BinOp)(k:IntKind)(a b:Int):Int:=match zeU Pr (binOp op 3 (.int k a) (.int k b))with | some (.int _ n)=>n | _=>0
noncomputable def uop(op:UnOp)(k:IntKind)(a:Int):Int:=match zeU Pr (Op.unary op (.int k a))with | some (.int _ n)=>n | _=>0
def zt(xs:List Int)(i:Nat):Int:=xs.getD i 0
def zbJ(xs:List Bool)(i:Nat):Bool:=xs.getD i false
def zfV(xs:List Clo)(i:Nat):Clo:=xs.getD i .none
def zW(xs:List (List Int))(i:Nat):List Int:=xs.getD i []
def zbC(xs:List zan)(i:Nat):zan:=xs.getD i default
def zD(xs:List (List zan))(i:Nat):List zan:=xs.getD i []
def zi(xs:List Region)(i:Nat):Region:=xs.getD i default
def zbe(xs:List zb9)(i:Nat):zb9:=xs.getD i default
def zb(xs:List zf)(i:Nat):zf:=xs.getD i default
def zw(xs:List zI)(i:Nat):zI:=xs.getD i default
def zA(xs:List z7)(i:Nat):z7:=xs.getD i default
def zn(xs:List zk)(i:Nat):zk:=xs.getD i default
def zcI(xs:List zaX)(i:Nat):zaX:=xs.getD i default
def zH(xs:List zF)(i:Nat):zF:=xs.getD i default
def zaC(xs:List zX)(i:Nat):zX:=xs.getD i default
def zh(xs:List zq)(i:Nat):zq:=xs.getD i default
def zpZ(xs:List zaF)(i:Nat):zaF:=xs.getD i default
def zbB(xs:List zm)(i:Nat):zm:=xs.getD i default
def zdY(xs:List zx)(i:Nat):zx:=xs.getD i default
def zZ(xs:List LayoutEnd)(i:Nat):LayoutEnd:=xs.getD i default
def zhO(xs:List zU)(i:Nat):zU:=xs.getD i default
theorem opM1{α β:Type}{f:α->β}{a:α}:(some a).map f=some (f a):=rfl
theorem opM2{α β:Type}{f:α->β}:(none:Option α).map f=none:=rfl
theorem ctK{L R S:Type}(x:Option S):CT (L:=L) (R:=R) fun _=>x:=CT.const x
theorem ctJ{L R:Type}(l:L):CT (R:=R) fun j=>j l:=CT.jump l
theorem ctC{L R S:Type}{c:Bool}{a b:(L->Option R)->Option S}(ha:CT a)(hb:CT b):CT fun j=>cond c (a j) (b j):=CT.cond ha hb
abbrev stt(l:List (Nat × AV))(n:Nat)(h:List Blk)(p:Nat):St:=⟨mkE l n 0,h,GL,p,[],zN⟩
abbrev htt(c:List Nat)(h:List (Nat × Hd))(f:List (At × Cv)):zab:=⟨fun n=>c.any (Nat.beq n),zfi h,f,G0,zN⟩
abbrev zg(n:Int):AV:=.v (.int .i64 n)
abbrev zu(n:Int):AV:=.v (.int .u32 n)
abbrev avB(b:Bool):AV:=.v (.bool b)
abbrev avG(a b d e:Int)(f:List (List zan))(g:List zf)(h:List zI)(i:Int)(k:List zk)(l:List zF)(n:Int)(m:Option ze)(o:Nat):List AV:=[zg a,zg b,zg d,zg e,.sl (.sl .sWindow) f,.sl .sPartition g,.sl .sChannel h,zg i,.sl .sPartitionPlace k,.sl .sChannelPlace l,zg n,.op .sMemMemory m,.own o]
abbrev avF(c:za)(l:zaR)(m:Option ze)(o:Nat):List AV:=avG c.qr c.major c.kernel c.room c.qp c.qq c.qw l.barrier l.qq l.qw l.end_ m o
def rdS(t:Ty):AV->Option t.T
 | .agg cs=>t.dec cs
 | _=>none
def rdL(t:Ty)(x:AV):Option t.T:=match Nat.beq t.sz 1,x with
 | true,.agg _=>none
 | true,.tup _=>none
 | true,x=>t.dec [x]
 | false,_=>none
def rdP(t:Ty)(x:AV):Option t.T:=match zcx t x with | some (some x)=>some x | _=>none
inductive Ats:List AV->List AV->Prop
 | nil:Ats [] []
 | cons {x z:AV} {l r:List AV} (h : ∀ F w β y,V F w β x y->V F w β z y) (h':Ats l r):Ats (x :: l) (z :: r)
theorem Ats.refl : ∀ l:List AV,Ats l l
 | []=>.nil
 | _ :: l=>.cons (fun _ _ _ _ h=>h) (Ats.refl l)
theorem Ats.len{l r:List AV}(h:Ats l r):l.length=r.length:=by
 induction h with
 | nil=>rfl
 | cons _ _ ih=>simp[ih]
theorem Ats.get{l r:List AV}(h:Ats l r) : ∀ (j:Nat) F w β y,V F w β (l.getD j .undef) y->V F w β (r.getD j .undef) y:=by
 induction h with
 | nil=>intro j F w β y h;exact h
 | cons h0 _ ih=>
  intro j F w β y h
  cases j with
  | zero=>exact h0 F w β y h
  | succ j=>exact ih j F w β y h
theorem Okay.ats{P:Program}{GL:List AV}{f:FuncId}{args args':List AV}{hp:List Blk}{r:Ans}(h:Okay P GL f args' hp r)(ha:Ats args args'):Okay P GL f args hp r:=
 fun F w β vs hh hg hl hv=>h F w β vs hh hg (hl.trans ha.len) fun j hj=>ha.get j F w β _ (hv j (by rw[ha.len];exact hj))
theorem zHC{F:Nat->Prop}{w:World}{β:Gh}{cs zs:List AV}{ys:Array Value}(hl:cs.length=zs.length)(hf:Fits F w β cs zs)(h:V F w β (.agg cs) (.agg ys)):V F w β (.agg zs) (.agg ys):=by
 cases h with
 | agg _ _ hy hc=>exact .agg _ _ (hy.trans hl) fun j hj=>hf j _ (by omega) (hc j (by omega))
theorem zcy{t:Ty}{x:AV}{s:t.T}(h:rdS t x=some s) : ∀ F w β y,V F w β x y->V F w β (.agg (t.enc s)) y:=by
 intro F w β y hv
 unfold rdS at h
 split at h
 . rename_i cs
   obtain ⟨h1,h2⟩:=zbm (F:=F) (w:=w) (β:=β) h
   cases hv with
   | agg _ ys hl hc=>exact zHC (by rw[h1,zaj]) h2 (.agg _ ys hl hc)
 . cases h
theorem z9{t:Ty}{x:AV}{s:t.T}(h:rdL t x=some s) : ∀ F w β y,V F w β x y->V F w β ((t.enc s).getD 0 .undef) y:=by
 intro F w β y hv
 unfold rdL at h
 split at h
 . cases h
 . cases h
 . obtain ⟨h1,h2⟩:=zbm (F:=F) (w:=w) (β:=β) h
   exact h2 0 y (by simp) (by simpa using hv)
 . cases h
theorem zOZ{t:Ty}{x:AV}{s:t.T}(h:rdP t x=some s) : ∀ F w β y,V F w β x y->V F w β (.op t (some s)) y:=by
 intro F w β y hv
 unfold rdP at h
 split at h
 . rename_i ho
   simp at h;subst h
   exact zad ho hv
 . cases h
theorem Oks.ats{f:FuncId}{args args':List AV}{hp:List Blk}{R:Type}{o:Option R}{to:R->Ans}(h:Oks f args' hp o to)(ha:Ats args args'){x:R}(hx:o=some x):zip Pr f/\Okay Pr GL f args hp (to x):=⟨h.1,(h.2 x hx).ats ha⟩
theorem Ats.app{l r l' r':List AV}(h:Ats l r)(h':Ats l' r'):Ats (l++l') (r++r'):=by
 induction h with
 | nil=>exact h'
 | cons h0 _ ih=>exact .cons h0 ih
structure Fk(f:FuncId) where
 g:List AV->List Blk->Option Rsp
 ok : ∀ args hp y,g args hp=some y->∀ x,y.o=some x->zip Pr f/\Okay Pr GL f args hp (y.to x)
structure znX(f:FuncId)(pre:List AV) where
 k:List AV->Option Rsp
 ok : ∀ l y,k l=some y->∀ x,y.o=some x->zip Pr f/\Okay Pr GL f (pre++l) [] (y.to x)
section
variable {f:FuncId} {pre:List AV}
def aRd{α:Type}{r:AV->Option α}{e:α->AV}(hr : ∀ {x a},r x=some a->∀ F w β y,V F w β x y->V F w β (e a) y)(K:(a:α)->znX f (pre++[e a])):znX f pre where
 k l:=match l with
  | x :: l=>(r x).bind fun a=>(K a).k l
  | []=>none
 ok l y hy x hx:=by
  cases l with
  | nil=>cases hy
  | cons z l=>
   simp only[Option.bind_eq_some_iff]at hy
   obtain ⟨a,h1,h2⟩:=hy
   obtain ⟨k1,k2⟩:=(K a).ok l y h2 x hx
   rw[List.append_assoc]at k2
   exact⟨k1,k2.ats ((Ats.refl pre).app (.cons (hr h1) (Ats.refl l)))⟩
abbrev aS(t:Ty)(K:(a:t.T)->znX f (pre++[.agg (t.enc a)])):znX f pre:=aRd zcy K
abbrev aL(t:Ty)(K:(a:t.T)->znX f (pre++[(t.enc a).getD 0 .undef])):znX f pre:=aRd z9 K
abbrev aP(t:Ty)(K:(a:t.T)->znX f (pre++[.op t (some a)])):znX f pre:=aRd zOZ K
def aE{R:Type}[Inhabited R]{o:Option R}{to:R->Ans}(h:Oks f pre [] o to):znX f pre where
 k l:=match l with
  | []=>some ⟨R,o,to,default⟩
  | _ :: _=>none
 ok l y hy x hx:=by
  cases l with
  | nil=>cases hy;rw[List.append_nil];exact⟨h.1,h.2 x hx⟩
  | cons z l=>cases hy
def aF(K:znX f []):Fk f where
 g args hp:=match hp with | []=>K.k args | _ :: _=>none
 ok args hp y hy x hx:=by
  cases hp with
  | nil=>exact K.ok args y hy x hx
  | cons z l=>cases hy
end
def zCq:List (Sigma Fk)->FuncId->List AV->List Blk->Option Rsp->Option Rsp
 | [],_,_,_,d=>d
 | ⟨n,k⟩ :: l,f,args,hp,d=>match Nat.beq n f with | true=>k.g args hp | false=>zCq l f args hp d
theorem zrn : ∀ {l:List (Sigma Fk)} {f:FuncId} {args:List AV} {hp:List Blk} {d:Option Rsp} {y:Rsp},zCq l f args hp d=some y->∀ x,y.o=some x->(zip Pr f/\Okay Pr GL f args hp (y.to x)) ∨ d=some y
 | [],_,_,_,_,_,h,_,_=>.inr h
 | ⟨n,k⟩ :: l,f,args,hp,d,y,h,x,hx=>by
  simp only[zCq]at h
  split at h
  . rename_i hn
    have:=Nat.eq_of_beq_eq_true hn
    subst this
    exact .inl (k.ok args hp y h x hx)
  . exact zrn h x hx
noncomputable def zhZ(l:List (Sigma Fk))(K:GK):GK where
 G c args hp:=match c with
  | .f f=>zCq l f args hp (K.G (.f f) args hp)
  | .c x=>K.G (.c x) args hp
  | .a f=>K.G (.a f) args hp
 ok c args hp y h x hx:=match c with
  | .f f=>by
   rcases zrn h x hx with h1 | h1
   . exact h1
   . exact K.ok (.f f) args hp y h1 x hx
  | .c z=>K.ok (.c z) args hp y h x hx
  | .a f=>K.ok (.a f) args hp y h x hx
noncomputable def zDz(l:List (Sigma Fk))(K:GK):GK where
 G c args hp:=match c with
  | .a f=>zCq l f args hp (K.G (.a f) args hp)
  | .c x=>K.G (.c x) args hp
  | .f f=>K.G (.f f) args hp
 ok c args hp y h x hx:=match c with
  | .a f=>by
   rcases zrn h x hx with h1 | h1
   . exact h1
   . exact K.ok (.a f) args hp y h1 x hx
  | .c z=>K.ok (.c z) args hp y h x hx
  | .f f=>K.ok (.f f) args hp y h x hx
structure Ck where
 g:Clo->List AV->List Blk->Option Rsp
 ok : ∀ {z args hp y},g z args hp=some y->∀ x,y.o=some x->OkC Pr GL (.c z) args hp (y.to x)
noncomputable def gamC(k:Ck)(K:GK):GK where
 G c args hp:=match c with
  | .c x=>k.g x args hp
  | .a f=>K.G (.a f) args hp
  | .f f=>K.G (.f f) args hp
 ok c args hp y h x hx:=match c with
  | .c z=>k.ok h x hx
  | .a f=>K.ok (.a f) args hp y h x hx
  | .f f=>K.ok (.f f) args hp y h x hx
abbrev R55:=Bool
def to55(r:R55):Ans:=⟨(avB r),[]⟩
inductive L55 where | l0 (x0:Int) | l4 (x0:Int)
def H55:zab:=htt [] [(0,⟨fgt [2,3,5] 101 0,[]⟩),(4,⟨fgt [2,3,6] 101 0,[]⟩)] []
def st55(a:zf)(b:zf):L55->Nat × St | .l0 x0=>(0,⟨mkE [(2,.ref 0 0),(3,.ref 1 0),(5,(zg x0))] 101 0,[.cells 72 (Ty.enc .sPartition a),.cells 72 (Ty.enc .sPartition b)],GL,0,[],zN⟩) | .l4 x0=>(4,⟨mkE [(2,.ref 0 0),(3,.ref 1 0),(6,(zg x0))] 101 0,[.cells 72 (Ty.enc .sPartition a),.cells 72 (Ty.enc .sPartition b)],GL,0,[],zN⟩)
def zoj(a:zf)(b:zf):L55->Tree L55 R55 | .l0 x0 =>let y1:=zi a.qe x0.toNat;let y2:=zi b.qe x0.toNat;.c (decide (x0<a.qe.length)) (.g (zO x0 a.qe.length) <| .g (zO x0 b.qe.length) <| .c (!(((y1.page:Int)==(y2.page))&&(((y1.qc:Int)==(y2.qc))&&(((y1.frame:Int)==(y2.frame))&&(((y1.qv:Int)==(y2.qv))&&true))))) (.r false) (.j (.l0 (i64.wrap (x0+1))))) (.j (.l4 0)) | .l4 x0 =>let y1:=zbe a.qt x0.toNat;let y2:=zbe b.qt x0.toNat;.c (decide (x0<a.qt.length)) (.g (zO x0 a.qt.length) <| .g (zO x0 b.qt.length) <| .c (!(((y1.ql:Int)==(y2.ql))&&(((y1.qb)==(y2.qb))&&true))) (.r false) (.j (.l4 (i64.wrap (x0+1))))) (.r true)
def zEZ(a:zf)(b:zf):Tree L55 R55:=.c (!(a.name.toList==b.name.toList)) (.r false) (.c (!((a.entry:Int)==b.entry)) (.r false) (.c (!((a.action:Int)==b.action)) (.r false) (.c (!((a.qR:Int)==b.qR)) (.r false) (.c (!((a.qE:Int)==b.qE)) (.r false) (.c (!((a.qW:Int)==b.qW)) (.r false) (.c (!((a.qe.length:Int)==b.qe.length)) (.r false) (.c (!((a.qt.length:Int)==b.qt.length)) (.r false) (.j (.l0 0)))))))))
def zna(a:zf)(b:zf):L55->Option R55:=zal (zoj a b)
theorem zji(a:zf)(b:zf)(l:L55):zna a b l=(zoj a b l).run (zna a b):=zE _ l
def ztg(a:zf)(b:zf):Option R55:=(zEZ a b).run (zna a b)
theorem zOa(a:zf)(b:zf):Oks 55 [.agg (Ty.enc .sPartition a),.agg (Ty.enc .sPartition b)] [] (ztg a b) to55:=zL K0 (H:=H55) zJ Tryz.func55 rfl (by kernel_rfl) (st55 a b) (fun J l=>by cases l <;> kernel_rfl) (fun J=>by kernel_rfl)
abbrev R20:=zp
def to20(r:R20):Ans:=⟨.agg [(zg r.qj.qr),(zg r.qj.major),(zg r.qj.kernel),(zg r.qj.room),.own 0,.own 1,.own 2,.own 3,.own 4],[.arr 136 (.sl .sWindow) r.qj.qp,.arr 72 .sPartition r.qj.qq,.arr 76 .sChannel r.qj.qw,.arr 53 (.sl (.i .u32)) r.qo,.arr 85 .sFeed r.qi]⟩
def zB0:R20:=(⟨(⟨16,600,3,13,[[(⟨0,100,100⟩:zan),(⟨1,100,100⟩:zan),(⟨2,100,100⟩:zan)]],[(⟨(ByteArray.mk #[97]),0,0,0,1,1,[(⟨0,1,0,7⟩:Region)],[(⟨0,true⟩:zb9),(⟨1,true⟩:zb9)]⟩:zf),(⟨(ByteArray.mk #[98]),0,0,0,0,0,[(⟨0,1,1,5⟩:Region)],[(⟨0,false⟩:zb9),(⟨1,false⟩:zb9)]⟩:zf),(⟨(ByteArray.mk #[99]),0,0,0,0,0,[(⟨0,1,2,7⟩:Region)],[(⟨0,false⟩:zb9)]⟩:zf)],[(⟨1,2,0⟩:zI),(⟨2,1,2⟩:zI)]⟩:za),[[0,0,0,0,7,8]],[(⟨0,3,[77]⟩:z7)]⟩:zp)
theorem zND:Oks 20 [] [] (some (zB0)) to20:=zbj K0 (H:=H0) zJ Tryz.func20 rfl (by kernel_rfl) (fun J=>by kernel_rfl)
abbrev zix:=zbd
def zCB(r:zix):Ans:=⟨.ifc 241 (.agg [(zg r.ends.qn),(zg r.ends.qx),.own 0]),[.arr 3 (.i .i64) r.ends.qt]⟩
inductive zg2 where | l0 (x0:Int) (x1:List Int)
def zCZ:zab:=htt [] [(0,⟨fgt [5,6,37,38,39] 62 0,[(.box 6 2,.own 3 (.i .i64))]⟩)] [(.slot 0,.ift 241)]
def zCk(d:(Option zG))(n_1:Int):zg2->Nat × St | .l0 x0 x1=>(0,⟨mkE [(5,.ref 0 0),(6,.ref 1 0),(37,.sl .sDestPlace ((zH ((d.getD default).lay.qw) n_1.toNat).qa)),(38,(zg (((zH ((d.getD default).lay.qw) n_1.toNat).qa).length))),(39,(zg x0))] 62 0,[.cells 76 (Ty.enc .sChannel (zw ((d.getD default).c.qw) n_1.toNat)),.cells 237 [(zg ((zH ((d.getD default).lay.qw) n_1.toNat).qn)),(zg ((zw ((d.getD default).c.qw) n_1.toNat).qx)),.own 2],.arr 3 (.i .i64) x1],GL,0,[],zN⟩)
def zg5(d:(Option zG))(n_1:Int):zg2->Tree zg2 zix | .l0 x0 x1 =>let y1:=zH ((d.getD default).lay.qw) n_1.toNat;let y2:=zw ((d.getD default).c.qw) n_1.toNat;let y3:=zcI (y1.qa) x0.toNat;.c (decide (x0<(y1.qa).length)) (.g (zO x0 (y1.qa).length) <| .g (leB (((x1:List Int).length+([y3.at_]:List Int).length)*8) 140737488355328) <| .j (.l0 (i64.wrap (x0+1)) ((x1:List Int)++[y3.at_]))) (.c ((y2.kind:Int)==2) (.n) (.r (⟨(⟨y1.qn,y2.qx,x1⟩:zdv)⟩:zbd)))
def zox(d:(Option zG))(n_1:Int):Tree zg2 zix:=.g d.isSome <| .g (zO n_1 ((d.getD default).c.qw).length) <| .g d.isSome <| .g (zO n_1 ((d.getD default).lay.qw).length) <| .g d.isSome <| .g (zO n_1 ((d.getD default).lay.qw).length) <| .j (.l0 0 [])
def zfm(d:(Option zG))(n_1:Int):zg2->Option zix:=zal (zg5 d n_1)
theorem zi9(d:(Option zG))(n_1:Int)(l:zg2):zfm d n_1 l=(zg5 d n_1 l).run (zfm d n_1):=zE _ l
def zck(d:(Option zG))(n_1:Int):Option zix:=(zox d n_1).run (zfm d n_1)
theorem zx0(d:(Option zG))(n_1:Int):Oks 61 [.op .sDuctDucts d,(zg n_1)] [] (zck d n_1) zCB:=zL K0 (H:=zCZ) zJ Tryz.func61 rfl (by kernel_rfl) (zCk d n_1) (fun J l=>by cases l <;> kernel_rfl) (fun J=>by kernel_rfl)
abbrev R78:=(List LayoutEnd) × (List LayoutEnd)
def to78(r:R78):Ans:=⟨.tup [.own 0,.own 1],[.arr 207 .sLayoutEnd r.1,.arr 207 .sLayoutEnd r.2]⟩
inductive L78 where | l0 (x0:Int) (x1:List LayoutEnd) (x2:List LayoutEnd) | l4 (x0:Int) (x1:Int) (x2:List zb9) (x3:Int) (x4:Int) (x5:List LayoutEnd) (x6:List LayoutEnd) | l23 (x0:Int) (x1:Int) (x2:List zb9) (x3:Int) (x4:Int) (x5:List LayoutEnd) (x6:List LayoutEnd)
def H78:zab:=htt [11] [(0,⟨fgt [1,4,5,11,12,13] 50 0,[(.slot 4,.own 207 .sLayoutEnd),(.slot 5,.own 207 .sLayoutEnd)]⟩),(4,⟨fgt [1,4,5,6,11,12,13,19,20,21] 50 0,[(.slot 4,.own 207 .sLayoutEnd),(.slot 5,.own 207 .sLayoutEnd)]⟩),(23,⟨fgt [1,4,5,6,11,12,13,19,20,21] 50 0,[(.slot 4,.own 207 .sLayoutEnd),(.slot 5,.own 207 .sLayoutEnd)]⟩)] []
def st78(c:za)(ql:Int):L78->Nat × St | .l0 x0 x1 x2=>(0,⟨mkE [(1,(zg ql)),(4,.own 0),(5,.own 1),(11,.sl .sPartition c.qq),(12,(zg c.qq.length)),(13,(zg x0))] 50 0,[.arr 207 .sLayoutEnd x1,.arr 207 .sLayoutEnd x2],GL,0,[],zN⟩) | .l4 x0 x1 x2 x3 x4 x5 x6=>(4,⟨mkE [(1,(zg ql)),(4,.own 0),(5,.own 1),(6,(zg x0)),(11,.sl .sPartition c.qq),(12,(zg c.qq.length)),(13,(zg x1)),(19,.sl .sPort x2),(20,(zg x3)),(21,(zg x4))] 50 0,[.arr 207 .sLayoutEnd x5,.arr 207 .sLayoutEnd x6],GL,0,[],zN⟩) | .l23 x0 x1 x2 x3 x4 x5 x6=>(23,⟨mkE [(1,(zg ql)),(4,.own 0),(5,.own 1),(6,(zg x0)),(11,.sl .sPartition c.qq),(12,(zg c.qq.length)),(13,(zg x1)),(19,.sl .sPort x2),(20,(zg x3)),(21,(zg x4))] 50 0,[.arr 207 .sLayoutEnd x5,.arr 207 .sLayoutEnd x6],GL,0,[],zN⟩)
def zl4(c:za)(ql:Int):L78->Tree L78 R78 | .l0 x0 x1 x2 =>let y1:=(zb c.qq x0.toNat).qt;.c (decide (x0<c.qq.length)) (.g (zO x0 c.qq.length) <| .j (.l4 x0 x0 y1 (y1.length) 0 x1 x2)) (.r (x1,x2)) | .l4 x0 x1 x2 x3 x4 x5 x6 =>let y1:=(⟨x0,x4⟩:LayoutEnd);let y2:=([y1]:List LayoutEnd);let y3:=(x5:List LayoutEnd);let y4:=(x6:List LayoutEnd);let y5:=zbe x2 x4.toNat;.c (decide (x4<x3)) (.g (zO x4 x2.length) <| .c (!((y5.ql:Int)==ql)) (.j (.l23 x0 x1 x2 x3 x4 x5 x6)) (.c (y5.qb) (.g (leB ((y3.length+y2.length)*16) 140737488355328) <| .j (.l23 x0 x1 x2 x3 x4 (y3++[y1]) x6)) (.g (leB ((y4.length+y2.length)*16) 140737488355328) <| .j (.l23 x0 x1 x2 x3 x4 x5 (y4++[y1]))))) (.j (.l0 (i64.wrap (x1+1)) x5 x6)) | .l23 x0 x1 x2 x3 x4 x5 x6=>.j (.l4 x0 x1 x2 x3 (i64.wrap (x4+1)) x5 x6)
def zME(c:za)(ql:Int):Tree L78 R78:=.j (.l0 0 [] [])
def zhK(c:za)(ql:Int):L78->Option R78:=zal (zl4 c ql)
theorem zgL(c:za)(ql:Int)(l:L78):zhK c ql l=(zl4 c ql l).run (zhK c ql):=zE _ l
def zpy(c:za)(ql:Int):Option R78:=(zME c ql).run (zhK c ql)
theorem zOx(c:za)(ql:Int):Oks 78 [.agg (Ty.enc .sConfig c),(zg ql)] [] (zpy c ql) to78:=zL K0 (H:=H78) zJ Tryz.func78 rfl (by kernel_rfl) (st78 c ql) (fun J l=>by cases l <;> kernel_rfl) (fun J=>by kernel_rfl)
abbrev R93:=Int
def to93(r:R93):Ans:=⟨(zg r),[]⟩
inductive L93 where | l0 (x0:Int)
def H93:zab:=htt [] [(0,⟨fgt [1,2,5,6] 46 0,[]⟩)] []
def st93(p:zf)(at_1:Int):L93->Nat × St | .l0 x0=>(0,⟨mkE [(1,(zg at_1)),(2,.ref 0 0),(5,(zg (bop .quo .i64 at_1 16))),(6,(zg x0))] 46 0,[.cells 72 (Ty.enc .sPartition p)],GL,0,[],zN⟩)
def zvi(p:zf)(at_1:Int):L93->Tree L93 R93 | .l0 x0 =>let y1:=zi p.qe x0.toNat;let y2:=bop .quo .i64 at_1 16;let y3:=i64.wrap (x0+1);.c (decide (x0<p.qe.length)) (.g (zO x0 p.qe.length) <| .c (decide ((y2:Int)>=y1.page)) (.c (decide ((y2:Int)<(i64.wrap (y1.page+y1.qc)))) (.r (i64.wrap ((i64.wrap ((i64.wrap ((i64.wrap (y1.frame+y2))-y1.page))*16))+(bop .rem .i64 at_1 16)))) (.j (.l0 y3))) (.j (.l0 y3))) (.r (-1))
def zMH(p:zf)(at_1:Int):Tree L93 R93:=.j (.l0 0)
def zv9(p:zf)(at_1:Int):L93->Option R93:=zal (zvi p at_1)
theorem zs9(p:zf)(at_1:Int)(l:L93):zv9 p at_1 l=(zvi p at_1 l).run (zv9 p at_1):=zE _ l
def zpA(p:zf)(at_1:Int):Option R93:=(zMH p at_1).run (zv9 p at_1)
theorem zOM(p:zf)(at_1:Int):Oks 93 [.agg (Ty.enc .sPartition p),(zg at_1)] [] (zpA p at_1) to93:=zL K0 (H:=H93) zJ Tryz.func93 rfl (by kernel_rfl) (st93 p at_1) (fun J l=>by cases l <;> kernel_rfl) (fun J=>by kernel_rfl)
abbrev zy7:=Int × Int
def zQn(r:zy7):Ans:=⟨.tup [(zg r.1),(zg r.2)],[]⟩
inductive zw1 where | l0 (x0:Int) (x1:Int) (x2:Int) | l4 (x0:Int) (x1:Int) (x2:Int) (x3:List zb9) (x4:Int) (x5:Int) | l23 (x0:Int) (x1:Int) (x2:Int) (x3:List zb9) (x4:Int) (x5:Int)
def H155:zab:=htt [11] [(0,⟨fgt [1,4,5,11,12,13] 40 0,[]⟩),(4,⟨fgt [1,4,5,11,12,13,18,19,20] 40 0,[]⟩),(23,⟨fgt [1,4,5,11,12,13,18,19,20] 40 0,[]⟩)] []
def zPo(c:za)(h_1:Int):zw1->Nat × St | .l0 x0 x1 x2=>(0,⟨mkE [(1,(zg h_1)),(4,(zg x0)),(5,(zg x1)),(11,.sl .sPartition c.qq),(12,(zg c.qq.length)),(13,(zg x2))] 40 0,[],GL,0,[],zN⟩) | .l4 x0 x1 x2 x3 x4 x5=>(4,⟨mkE [(1,(zg h_1)),(4,(zg x0)),(5,(zg x1)),(11,.sl .sPartition c.qq),(12,(zg c.qq.length)),(13,(zg x2)),(18,.sl .sPort x3),(19,(zg x4)),(20,(zg x5))] 40 0,[],GL,0,[],zN⟩) | .l23 x0 x1 x2 x3 x4 x5=>(23,⟨mkE [(1,(zg h_1)),(4,(zg x0)),(5,(zg x1)),(11,.sl .sPartition c.qq),(12,(zg c.qq.length)),(13,(zg x2)),(18,.sl .sPort x3),(19,(zg x4)),(20,(zg x5))] 40 0,[],GL,0,[],zN⟩)
def zhQ(c:za)(h_1:Int):zw1->Tree zw1 zy7 | .l0 x0 x1 x2 =>let y1:=(zb c.qq x2.toNat).qt;.c (decide (x2<c.qq.length)) (.g (zO x2 c.qq.length) <| .j (.l4 x0 x1 x2 y1 (y1.length) 0)) (.r (x0,x1)) | .l4 x0 x1 x2 x3 x4 x5 =>let y1:=zbe x3 x5.toNat;.c (decide (x5<x4)) (.g (zO x5 x3.length) <| .c (!((y1.ql:Int)==h_1)) (.j (.l23 x0 x1 x2 x3 x4 x5)) (.c (y1.qb) (.j (.l23 (i64.wrap (x0+1)) x1 x2 x3 x4 x5)) (.j (.l23 x0 (i64.wrap (x1+1)) x2 x3 x4 x5)))) (.j (.l0 x0 x1 (i64.wrap (x2+1)))) | .l23 x0 x1 x2 x3 x4 x5=>.j (.l4 x0 x1 x2 x3 x4 (i64.wrap (x5+1)))
def zHv(c:za)(h_1:Int):Tree zw1 zy7:=.j (.l0 0 0 0)
def ze0(c:za)(h_1:Int):zw1->Option zy7:=zal (zhQ c h_1)
theorem zfn(c:za)(h_1:Int)(l:zw1):ze0 c h_1 l=(zhQ c h_1 l).run (ze0 c h_1):=zE _ l
def zrc(c:za)(h_1:Int):Option zy7:=(zHv c h_1).run (ze0 c h_1)
theorem zIK(c:za)(h_1:Int):Oks 155 [.agg (Ty.enc .sConfig c),(zg h_1)] [] (zrc c h_1) zQn:=zL K0 (H:=H155) zJ Tryz.func155 rfl (by kernel_rfl) (zPo c h_1) (fun J l=>by cases l <;> kernel_rfl) (fun J=>by kernel_rfl)
abbrev R72:=Bool
def to72(r:R72):Ans:=⟨(avB r),[]⟩
inductive L72 where | l0 (x0:Int)
def H72:zab:=htt [] [(0,⟨fgt [1,2,3,4,9] 47 0,[]⟩)] []
def st72(c:za)(p:Int)(ql:Int)(qb:Bool):L72->Nat × St | .l0 x0=>(0,⟨mkE [(1,(zg p)),(2,(zg ql)),(3,(avB qb)),(4,.ref 0 0),(9,(zg x0))] 47 0,[.cells 26 (Ty.enc .sConfig c)],GL,0,[],zN⟩)
def zok(c:za)(p:Int)(ql:Int)(qb:Bool):L72->Tree L72 R72 | .l0 x0 =>let y1:=(zb c.qq p.toNat).qt;let y2:=zO p c.qq.length;let y3:=i64.wrap (x0+1);let y4:=zbe y1 x0.toNat;.g y2 <| .c (decide (x0<y1.length)) (.g y2 <| .g (zO x0 y1.length) <| .c ((y4.ql:Int)==ql) (.g y2 <| .g (zO x0 y1.length) <| .c ((y4.qb)==qb) (.r true) (.j (.l0 y3))) (.j (.l0 y3))) (.r false)
def zAs(c:za)(p:Int)(ql:Int)(qb:Bool):Tree L72 R72:=.j (.l0 0)
def zs4(c:za)(p:Int)(ql:Int)(qb:Bool):L72->Option R72:=zal (zok c p ql qb)
theorem zjk(c:za)(p:Int)(ql:Int)(qb:Bool)(l:L72):zs4 c p ql qb l=(zok c p ql qb l).run (zs4 c p ql qb):=zE _ l
def znH(c:za)(p:Int)(ql:Int)(qb:Bool):Option R72:=(zAs c p ql qb).run (zs4 c p ql qb)
theorem zOr(c:za)(p:Int)(ql:Int)(qb:Bool):Oks 72 [.agg (Ty.enc .sConfig c),(zg p),(zg ql),(avB qb)] [] (znH c p ql qb) to72:=zL K0 (H:=H72) zJ Tryz.func72 rfl (by kernel_rfl) (st72 c p ql qb) (fun J l=>by cases l <;> kernel_rfl) (fun J=>by kernel_rfl)
abbrev R148:=Int
def zQg(r:R148):Ans:=⟨(zg r),[]⟩
def zmV(h_0:zI):R148:=Tree.val (L:=Empty) <|
 .c (decide ((h_0.qx:Int)<1))
 (.r 0)
 (.c (decide ((h_0.qx:Int)>16))
 (.r 0)
 (.c ((h_0.kind:Int)==1)
 (.r h_0.qx)
 (.c ((h_0.kind:Int)==2)
 (.c (decide ((h_0.qy:Int)>=1))
 (.c (decide ((h_0.qy:Int)<=8))
 (.r (i64.wrap (h_0.qy*(i64.wrap (1+h_0.qx)))))
 (.r 0))
 (.r 0))
 (.r 0))))
theorem zID(h_0:zI):Oks 148 [.agg (Ty.enc .sChannel h_0)] [] (some (zmV h_0)) zQg:=zbx K0 (H:=H0) zJ Tryz.func148 rfl (by kernel_rfl) rfl (fun J=>by kernel_rfl)
abbrev R25:=(List z7)
def to25(r:R25):Ans:=⟨.own 0,[.row 85 .sFeed [(2,46)] [] r]⟩
inductive L25 where | l0 (x0:Int) (x1:List z7)
def H25:zab:=⟨fun n=>[].any (Nat.beq n),zfi [(0,⟨fgt [0,3,4] 31 0,[(.slot 3,.own 85 .sFeed)]⟩)],[],G0,(fun e=>match e with | 85=>[(2,46)] | _=>[])⟩
def st25(l_0:(List z7)):L25->Nat × St | .l0 x0 x1=>(0,⟨mkE [(0,.sl .sFeed l_0),(3,.own 0),(4,(zg x0))] 31 0,[.row 85 .sFeed [(2,46)] [] x1],GL,0,[],(fun e=>match e with | 85=>[(2,46)] | _=>[])⟩)
def zu8(l_0:(List z7)):L25->Tree L25 R25 | .l0 x0 x1 =>let y2:=zA l_0 x0.toNat;let y1:=(⟨y2.qk,y2.qu,(([]:List Int)++y2.qx)⟩:z7);.c (decide (x0<l_0.length)) (.g (zO x0 l_0.length) <| .g (zO x0 l_0.length) <| .g (leB ((([]:List Int).length+(y2.qx:List Int).length)*4) 140737488355328) <| .g (leB (((x1:List z7).length+([y1]:List z7).length)*40) 140737488355328) <| .j (.l0 (i64.wrap (x0+1)) ((x1:List z7)++[y1]))) (.r x1)
def zEL(l_0:(List z7)):Tree L25 R25:=.j (.l0 0 [])
def zsO(l_0:(List z7)):L25->Option R25:=zal (zu8 l_0)
theorem zsP(l_0:(List z7))(l:L25):zsO l_0 l=(zu8 l_0 l).run (zsO l_0):=zE _ l
def ztd(l_0:(List z7)):Option R25:=(zEL l_0).run (zsO l_0)
theorem zNI(l_0:(List z7)):Oks 25 [.sl .sFeed l_0] [] (ztd l_0) to25:=zL K0 (H:=H25) zJ Tryz.func25 rfl (by kernel_rfl) (st25 l_0) (fun J l=>by cases l <;> kernel_rfl) (fun J=>by kernel_rfl)
abbrev zy3:=zx
def zQh(r:zy3):Ans:=⟨.agg [(zg r.e),(zg r.where_.first),(zg r.where_.second)],[]⟩
inductive zwX where | l0 (x0:Int)
def H149:zab:=htt [] [(0,⟨fgt [2,5,6,7] 17 0,[]⟩)] []
def zPk(l_0:(List zx)):zwX->Nat × St | .l0 x0=>(0,⟨mkE [(2,.ref 0 0),(5,.sl .sAdmitFound l_0),(6,(zg l_0.length)),(7,(zg x0))] 17 0,[.cells 194 [(zg 0),(zg 0),(zg 0)]],GL,0,[],zN⟩)
def zp6(l_0:(List zx)):zwX->Tree zwX zy3 | .l0 x0 =>let y1:=zdY l_0 x0.toNat;.c (decide (x0<l_0.length)) (.g (zO x0 l_0.length) <| .c (!(((y1.e:Int)==fine.e)&&((((y1.where_.first:Int)==fine.where_.first)&&(((y1.where_.second:Int)==fine.where_.second)&&true))&&true))) (.r y1) (.j (.l0 (i64.wrap (x0+1))))) (.r fine)
def zHt(l_0:(List zx)):Tree zwX zy3:=.j (.l0 0)
def zqT(l_0:(List zx)):zwX->Option zy3:=zal (zp6 l_0)
theorem zpg(l_0:(List zx))(l:zwX):zqT l_0 l=(zp6 l_0 l).run (zqT l_0):=zE _ l
def zbz(l_0:(List zx)):Option zy3:=(zHt l_0).run (zqT l_0)
theorem zIE(l_0:(List zx)):Oks 149 [.sl .sAdmitFound l_0] [] (zbz l_0) zQh:=zL K0 (H:=H149) zJ Tryz.func149 rfl (by kernel_rfl) (zPk l_0) (fun J l=>by cases l <;> kernel_rfl) (fun J=>by kernel_rfl)
abbrev R175:=Int × Int × Bool
def zQB(r:R175):Ans:=⟨.tup [(zg r.1),(zg r.2.1),(avB r.2.2)],[]⟩
def zld(entry_0:Int):R175:=Tree.val (L:=Empty) <|
 .c (((bop .and .u32 entry_0 2147483648):Int)==0)
 (.r (0,0,false))
 (.r ((i64.wrap (bop .and .u32 (bop .shr .u32 entry_0 3) 1023)),(i64.wrap (bop .and .u32 entry_0 7)),true))
theorem zI4(entry_0:Int):Oks 175 [(zu entry_0)] [] (some (zld entry_0)) zQB:=zbx K0 (H:=H0) zJ Tryz.func175 rfl (by kernel_rfl) rfl (fun J=>by kernel_rfl)
abbrev R68:=zaN × Int × zah
def to68(r:R68):Ans:=⟨.tup [.agg [(zu r.1.one),(zu r.1.two),(zu r.1.three)],(zg r.2.1)],[.cells 116 [.op .sCallsCalls r.2.2.calls,.ref 1 0,(zg r.2.2.p),(zg r.2.2.qu),(zu r.2.2.x.qz.e0),(zu r.2.2.x.qz.e1),(zu r.2.2.x.qz.e2),(zu r.2.2.x.qz.e3),(zu r.2.2.x.qz.e4),(zu r.2.2.x.qz.e5),(zu r.2.2.x.qz.e6),(zu r.2.2.x.qz.e7),(zu r.2.2.x.qz.e8),(zu r.2.2.x.qz.e9),(zu r.2.2.x.qz.e10),(zu r.2.2.x.qz.e11),(zu r.2.2.x.qz.e12),(zu r.2.2.x.qz.e13),(zu r.2.2.x.qz.e14),(zu r.2.2.x.qz.e15),(zu r.2.2.x.pC)],.cells 112 [.own 2],.arr 46 (.i .u32) ((r.2.2.m.getD default).qx)]⟩
def zfl(s:(Option zr))(p:Int)(qu:Int)(x:zB)(ws:List Int):R68:=((⟨0,(u32.wrap p),(u32.wrap qu)⟩:zaN),0,(⟨s,(some (⟨ws⟩:ze)),p,qu,x⟩:zah))
theorem zOn(s:(Option zr))(p:Int)(qu:Int)(x:zB)(ws:List Int):Oks 68 [.ref 0 0] [.cells 116 [.op .sCallsCalls s,.ref 1 0,(zg p),(zg qu),(zu x.qz.e0),(zu x.qz.e1),(zu x.qz.e2),(zu x.qz.e3),(zu x.qz.e4),(zu x.qz.e5),(zu x.qz.e6),(zu x.qz.e7),(zu x.qz.e8),(zu x.qz.e9),(zu x.qz.e10),(zu x.qz.e11),(zu x.qz.e12),(zu x.qz.e13),(zu x.qz.e14),(zu x.qz.e15),(zu x.pC)],.cells 112 [.own 2],.arr 46 (.i .u32) ws] (some (zfl s p qu x ws)) to68:=zbj K0 (H:=H0) zJ Tryz.func68 rfl (by kernel_rfl) (fun J=>by kernel_rfl)
abbrev R35:=(List Int)
def zJ4(r:R35):Ans:=⟨.own 0,[.arr 46 (.i .u32) r]⟩
def H35:zab:=⟨fun _=>false,fun _=>⟨[],[]⟩,[(.slot 0,.own 46 (.i .u32))],G0,zN⟩
theorem zBs(A:Option Addr)(c:Nat):Oks 35 [.v (.slice A 0 c)] [] (some []) zJ4:=by
 cases A with
 | none=>exact zbj K0 (H:=H35) zJ Tryz.func35 rfl (by kernel_rfl) (fun J=>by kernel_rfl)
 | some ad=>exact zbj K0 (H:=H35) zJ Tryz.func35 rfl (by kernel_rfl) (fun J=>by kernel_rfl)
def zgS(s_0:(List Int)):Option R35:=cond (leB (s_0.length*4) 140737488355328) (some s_0) none
theorem zBr(s_0:(List Int)):Oks 35 [.sl (.i .u32) s_0] [] (Tree.run0 <| .c (Nat.beq s_0.length 0) (.n) (.g (leB ((([]:List Int).length+(s_0:List Int).length)*4) 140737488355328) <| .r (([]:List Int)++s_0))) zJ4:=
 zM K0 (H:=H0) zJ Tryz.func35 rfl (by kernel_rfl) (fun J=>by kernel_rfl)
theorem zNS(s_0:(List Int)):Oks 35 [.sl (.i .u32) s_0] [] (zgS s_0) zJ4:=by
 cases s_0 with
 | cons y l=>
  refine⟨(zBr (y :: l)).1,fun x hx=>(zBr (y :: l)).2 x ?_⟩
  rw[← hx]
  unfold zgS
  simp only[Tree.run0,Tree.run,List.length_nil,Nat.zero_add,List.nil_append,List.length_cons]
  rfl
 | nil=>
  refine⟨(zBs none 0).1,fun x hx F w β vs hh hg hl hv=>?_⟩
  cases hx
  obtain ⟨A,c,h⟩:=zpT (hv 0 (by decide))
  refine(zBs A c).2 [] rfl F w β vs hh hg hl fun j hj=>?_
  have hj0:j=0:=by
   have:j<1:=hj
   omega
  subst hj0
  rw[h]
  exact .v _
abbrev R115:=Bool
def zPP(r:R115):Ans:=⟨(avB r),[]⟩
def za1(n_0:Int)(least:Int)(most:Int):R115:=Tree.val (L:=Empty) <|
 .c (decide ((n_0:Int)>=least))
 (.r (decide ((n_0:Int)<=most)))
 (.r false)
theorem zIi(n_0:Int)(least:Int)(most:Int):Oks 115 [(zg n_0),(zg least),(zg most)] [] (some (za1 n_0 least most)) zPP:=zbx K0 (H:=H0) zJ Tryz.func115 rfl (by kernel_rfl) rfl (fun J=>by kernel_rfl)
abbrev R154:=za0
def zQm(r:R154):Ans:=⟨.agg [(zg r.first),(zg r.second)],[]⟩
def zdI(first:Int)(second:Int):R154:=(⟨first,second⟩:za0)
theorem zIJ(first:Int)(second:Int):Oks 154 [(zg first),(zg second)] [] (some (zdI first second)) zQm:=zbj K0 (H:=H0) zJ Tryz.func154 rfl (by kernel_rfl) (fun J=>by kernel_rfl)
abbrev R151:=za0
def zQj(r:R151):Ans:=⟨.agg [(zg r.first),(zg r.second)],[]⟩
def za3(first:Int):R151:=(⟨first,(-1)⟩:za0)
theorem zIG(first:Int):Oks 151 [(zg first)] [] (some (za3 first)) zQj:=zbj K0 (H:=H0) zJ Tryz.func151 rfl (by kernel_rfl) (fun J=>by kernel_rfl)
abbrev R29:=Bool × (List z7)
def to29(r:R29):Ans:=⟨(avB r.1),[.row 85 .sFeed [(2,46)] [] r.2]⟩
inductive L29 where | l0 (x0:Bool) (x1:Int) (x2:List z7) | l4 (x0:Bool) (x1:Int) (x2:Int) (x3:List z7)
def H29:zab:=⟨fun n=>[].any (Nat.beq n),zfi [(0,⟨fgt [0,1,5,6] 107 0,[]⟩),(4,⟨fgt [0,1,5,6,7] 107 0,[(.slot 0,.home)]⟩)],[],G0,(fun e=>match e with | 85=>[(2,46)] | _=>[])⟩
def st29(was:(List z7))(rowF:List z7):L29->Nat × St | .l0 x0 x1 x2=>(0,⟨mkE [(0,.own 0),(1,.sl .sFeed was),(5,(avB x0)),(6,(zg x1))] 107 0,[.row 85 .sFeed [(2,46)] [] x2],GL,1,[],(fun e=>match e with | 85=>[(2,46)] | _=>[])⟩) | .l4 x0 x1 x2 x3=>(4,⟨mkE [(0,.own 0),(1,.sl .sFeed was),(5,(avB x0)),(6,(zg x1)),(7,(zg x2))] 107 0,[.row 85 .sFeed [(2,46)] [] x3],GL,1,[],(fun e=>match e with | 85=>[(2,46)] | _=>[])⟩)
def zoi(was:(List z7))(rowF:List z7):L29->Tree L29 R29 | .l0 x0 x1 x2 =>let y1:=zA x2 x1.toNat;let y2:=zA was x1.toNat;let y3:=zO x1 was.length;let y4:=zO x1 x2.length;.c x0 (.c (decide (x1<x2.length)) (.g y4 <| .g y3 <| .c ((y1.qk:Int)==y2.qk) (.g y4 <| .g y3 <| .c ((y1.qu:Int)==y2.qu) (.g y4 <| .g y3 <| .j (.l4 (((y1.qx).length:Int)==(y2.qx).length) x1 0 (List.set x2 x1.toNat y1))) (.j (.l4 false x1 0 x2))) (.j (.l4 false x1 0 x2))) (.r (x0,x2))) (.r (x0,x2)) | .l4 x0 x1 x2 x3 =>let y1:=zA x3 x1.toNat;let y3:=(List.set x3 x1.toNat (⟨y1.qk,(i64.wrap (y1.qu+1)),y1.qx⟩:z7));let y4:=zO x1 x3.length;let y5:=(zA was x1.toNat).qx;let y6:=i64.wrap (x1+1);let y7:=List.set x3 x1.toNat y1;let y2:=zA y7 x1.toNat;.c x0 (.g (zO x1 was.length) <| .c (decide (x2<y5.length)) (.g y4 <| .g (zO x2 (y1.qx).length) <| .g (zO x1 was.length) <| .g (zO x2 y5.length) <| .g y4 <| .g (zO x2 (y2.qx).length) <| .j (.l4 ((zt (y1.qx) x2.toNat:Int)==zt y5 x2.toNat) x1 (i64.wrap (x2+1)) (List.set y7 x1.toNat (⟨y2.qk,y2.qu,(List.set (y2.qx) x2.toNat 12345)⟩:z7)))) (.g y4 <| .g y4 <| .j (.l0 x0 y6 y3))) (.g y4 <| .g y4 <| .j (.l0 x0 y6 y3))
def zEN(was:(List z7))(rowF:List z7):Tree L29 R29:=.j (.l0 ((rowF.length:Int)==was.length) 0 rowF)
def zhJ(was:(List z7))(rowF:List z7):L29->Option R29:=zal (zoi was rowF)
theorem zjc(was:(List z7))(rowF:List z7)(l:L29):zhJ was rowF l=(zoi was rowF l).run (zhJ was rowF):=zE _ l
def zlh(was:(List z7))(rowF:List z7):Option R29:=(zEN was rowF).run (zhJ was rowF)
theorem zNM(was:(List z7))(rowF:List z7):Oks 29 [.own 0,.sl .sFeed was] [.row 85 .sFeed [(2,46)] [] rowF] (zlh was rowF) to29:=zL K0 (H:=H29) zJ Tryz.func29 rfl (by kernel_rfl) (st29 was rowF) (fun J l=>by cases l <;> kernel_rfl) (fun J=>by kernel_rfl)
abbrev R23:=Bool
def to23(r:R23):Ans:=⟨(avB r),[]⟩
inductive L23 where | l0 (x0:Int) (x1:Int) | l4 (x0:Int) (x1:Int)
def H23:zab:=htt [] [(0,⟨fgt [1,3,4] 66 0,[]⟩),(4,⟨fgt [1,3,5] 66 0,[]⟩)] []
def st23(c:za):L23->Nat × St | .l0 x0 x1=>(0,⟨mkE [(1,.ref 0 0),(3,(zg x0)),(4,(zg x1))] 66 0,[.cells 26 (Ty.enc .sConfig c)],GL,0,[],zN⟩) | .l4 x0 x1=>(4,⟨mkE [(1,.ref 0 0),(3,(zg x0)),(5,(zg x1))] 66 0,[.cells 26 (Ty.enc .sConfig c)],GL,0,[],zN⟩)
def zog(c:za):L23->Tree L23 R23 | .l0 x0 x1=>.c (decide (x1<c.qp.length)) (.c (decide (x0<=2147483647)) (.g (zO x1 c.qp.length) <| .j (.l0 (i64.wrap (x0+(zD c.qp x1.toNat).length)) (i64.wrap (x1+1)))) (.j (.l4 x0 0))) (.j (.l4 x0 0)) | .l4 x0 x1 =>let y1:=zb c.qq x1.toNat;let y2:=zO x1 c.qq.length;let y3:=decide (x0>2147483647);.c (decide (x1<c.qq.length)) (.c (decide (x0<=2147483647)) (.g y2 <| .g y2 <| .j (.l4 (i64.wrap ((i64.wrap (x0+(y1.qe).length))+(y1.qt).length)) (i64.wrap (x1+1)))) (.r y3)) (.r y3)
def zMA(c:za):Tree L23 R23:=.j (.l0 (i64.wrap ((i64.wrap (c.qp.length+c.qq.length))+c.qw.length)) 0)
def zsN(c:za):L23->Option R23:=zal (zog c)
theorem zja(c:za)(l:L23):zsN c l=(zog c l).run (zsN c):=zE _ l
def zB7(c:za):Option R23:=(zMA c).run (zsN c)
theorem zNG(c:za):Oks 23 [.agg (Ty.enc .sConfig c)] [] (zB7 c) to23:=zL K0 (H:=H23) zJ Tryz.func23 rfl (by kernel_rfl) (st23 c) (fun J l=>by cases l <;> kernel_rfl) (fun J=>by kernel_rfl)
abbrev R61:=zbA
def to61(r:R61):Ans:=⟨.ifc 239 (.agg [(zg r.ends.qn),(zg r.ends.qx),.own 0,(zg r.qy)]),[.arr 3 (.i .i64) r.ends.qt]⟩
inductive L61 where | l0 (x0:Int) (x1:List Int)
def H61:zab:=htt [] [(0,⟨fgt [5,6,37,38,39] 62 0,[(.box 6 2,.own 3 (.i .i64))]⟩)] [(.slot 0,.ift 239)]
def st61(d:(Option zG))(n_1:Int):L61->Nat × St | .l0 x0 x1=>(0,⟨mkE [(5,.ref 0 0),(6,.ref 1 0),(37,.sl .sDestPlace ((zH ((d.getD default).lay.qw) n_1.toNat).qa)),(38,(zg (((zH ((d.getD default).lay.qw) n_1.toNat).qa).length))),(39,(zg x0))] 62 0,[.cells 76 (Ty.enc .sChannel (zw ((d.getD default).c.qw) n_1.toNat)),.cells 237 [(zg ((zH ((d.getD default).lay.qw) n_1.toNat).qn)),(zg ((zw ((d.getD default).c.qw) n_1.toNat).qx)),.own 2],.arr 3 (.i .i64) x1],GL,0,[],zN⟩)
def zvd(d:(Option zG))(n_1:Int):L61->Tree L61 R61 | .l0 x0 x1 =>let y1:=zH ((d.getD default).lay.qw) n_1.toNat;let y2:=zw ((d.getD default).c.qw) n_1.toNat;let y3:=zcI (y1.qa) x0.toNat;.c (decide (x0<(y1.qa).length)) (.g (zO x0 (y1.qa).length) <| .g (leB (((x1:List Int).length+([y3.at_]:List Int).length)*8) 140737488355328) <| .j (.l0 (i64.wrap (x0+1)) ((x1:List Int)++[y3.at_]))) (.g ((y2.kind:Int)==2) <| .r (⟨(⟨y1.qn,y2.qx,x1⟩:zdv),y2.qy⟩:zbA))
def zE3(d:(Option zG))(n_1:Int):Tree L61 R61:=.g d.isSome <| .g (zO n_1 ((d.getD default).c.qw).length) <| .g d.isSome <| .g (zO n_1 ((d.getD default).lay.qw).length) <| .g d.isSome <| .g (zO n_1 ((d.getD default).lay.qw).length) <| .j (.l0 0 [])
def zsY(d:(Option zG))(n_1:Int):L61->Option R61:=zal (zvd d n_1)
theorem zsZ(d:(Option zG))(n_1:Int)(l:L61):zsY d n_1 l=(zvd d n_1 l).run (zsY d n_1):=zE _ l
def zju(d:(Option zG))(n_1:Int):Option R61:=(zE3 d n_1).run (zsY d n_1)
theorem zOg(d:(Option zG))(n_1:Int):Oks 61 [.op .sDuctDucts d,(zg n_1)] [] (zju d n_1) to61:=zL K0 (H:=H61) zJ Tryz.func61 rfl (by kernel_rfl) (st61 d n_1) (fun J l=>by cases l <;> kernel_rfl) (fun J=>by kernel_rfl)
abbrev zy9:=Bool
def zQr(r:zy9):Ans:=⟨(avB r),[]⟩
inductive zw3 where | l0 (x0:Int)
def H159:zab:=htt [] [(0,⟨fgt [0,3] 49 0,[]⟩)] []
def zPq(s_0:ByteArray):zw3->Nat × St | .l0 x0=>(0,⟨mkE [(0,.v (.string s_0)),(3,(zg x0))] 49 0,[],GL,0,[],zN⟩)
def zp9(s_0:ByteArray):zw3->Tree zw3 zy9 | .l0 x0 =>let y1:=((zcB s_0 x0.toNat):Int);let y2:=i64.wrap (x0+1);let y3:=!(y1==45);.c (decide (x0<s_0.size)) (.g (zO x0 s_0.size) <| .c (decide (y1<97)) (.c (decide (y1<48)) (.c y3 (.r false) (.j (.l0 y2))) (.c (decide (y1>57)) (.c y3 (.r false) (.j (.l0 y2))) (.j (.l0 y2)))) (.c (decide (y1>122)) (.c (decide (y1<48)) (.c y3 (.r false) (.j (.l0 y2))) (.c (decide (y1>57)) (.c y3 (.r false) (.j (.l0 y2))) (.j (.l0 y2)))) (.j (.l0 y2)))) (.r true)
def zAd(s_0:ByteArray):Tree zw3 zy9:=.c (s_0.toList==(ByteArray.mk #[]).toList) (.r false) (.c (decide ((s_0.size:Int)>16)) (.r false) (.g (zO 0 s_0.size) <| .c (decide (((zcB s_0 0):Int)<97)) (.r false) (.g (zO 0 s_0.size) <| .c (decide (((zcB s_0 0):Int)>122)) (.r false) (.j (.l0 0)))))
def zm3(s_0:ByteArray):zw3->Option zy9:=zal (zp9 s_0)
theorem zpj(s_0:ByteArray)(l:zw3):zm3 s_0 l=(zp9 s_0 l).run (zm3 s_0):=zE _ l
def zrd(s_0:ByteArray):Option zy9:=(zAd s_0).run (zm3 s_0)
theorem zIO(s_0:ByteArray):Oks 159 [.v (.string s_0)] [] (zrd s_0) zQr:=zL K0 (H:=H159) zJ Tryz.func159 rfl (by kernel_rfl) (zPq s_0) (fun J l=>by cases l <;> kernel_rfl) (fun J=>by kernel_rfl)
abbrev R81:=Int
def to81(r:R81):Ans:=⟨(zg r),[]⟩
inductive L81 where | l0 (x0:Int) (x1:Bool) (x2:Bool) (x3:Bool) (x4:Bool) (x5:Bool) (x6:Bool) (x7:Bool) (x8:Bool) (x9:Bool) (x10:Bool) (x11:Bool) (x12:Bool) (x13:Bool) (x14:Bool) (x15:Bool) (x16:Bool) | l4 (x0:Int) (x1:Int) (x2:Int) (x3:Bool) (x4:Bool) (x5:Bool) (x6:Bool) (x7:Bool) (x8:Bool) (x9:Bool) (x10:Bool) (x11:Bool) (x12:Bool) (x13:Bool) (x14:Bool) (x15:Bool) (x16:Bool) (x17:Bool) (x18:Bool) (x19:Int) (x20:Int) (x21:Int) (x22:Int) | l8 (x0:Int) (x1:Bool) (x2:Bool) (x3:Bool) (x4:Bool) (x5:Bool) (x6:Bool) (x7:Bool) (x8:Bool) (x9:Bool) (x10:Bool) (x11:Bool) (x12:Bool) (x13:Bool) (x14:Bool) (x15:Bool) (x16:Bool) (x17:Int) | l35 (x0:Int) (x1:Bool) (x2:Bool) (x3:Bool) (x4:Bool) (x5:Bool) (x6:Bool) (x7:Bool) (x8:Bool) (x9:Bool) (x10:Bool) (x11:Bool) (x12:Bool) (x13:Bool) (x14:Bool) (x15:Bool) (x16:Bool) (x17:Int)
def H81:zab:=htt [17] [(0,⟨fgt [3,11,12,13] 39 0,[]⟩),(4,⟨fgt [3,5,11,12,13,18,19] 39 0,[]⟩),(8,⟨fgt [7,30,31] 39 0,[]⟩),(35,⟨fgt [7,30,31] 39 0,[]⟩)] []
def st81(x:zf):L81->Nat × St | .l0 x0 x1 x2 x3 x4 x5 x6 x7 x8 x9 x10 x11 x12 x13 x14 x15 x16=>(0,⟨mkE [(3,.ref 0 0),(11,.sl .sRegion x.qe),(12,(zg x.qe.length)),(13,(zg x0))] 39 0,[.cells 264 [(avB x1),(avB x2),(avB x3),(avB x4),(avB x5),(avB x6),(avB x7),(avB x8),(avB x9),(avB x10),(avB x11),(avB x12),(avB x13),(avB x14),(avB x15),(avB x16)]],GL,0,[],zN⟩) | .l4 x0 x1 x2 x3 x4 x5 x6 x7 x8 x9 x10 x11 x12 x13 x14 x15 x16 x17 x18 x19 x20 x21 x22=>(4,⟨mkE [(3,.ref 0 0),(5,.ref 1 0),(11,.sl .sRegion x.qe),(12,(zg x.qe.length)),(13,(zg x0)),(18,(zg x1)),(19,(zg x2))] 39 0,[.cells 264 [(avB x3),(avB x4),(avB x5),(avB x6),(avB x7),(avB x8),(avB x9),(avB x10),(avB x11),(avB x12),(avB x13),(avB x14),(avB x15),(avB x16),(avB x17),(avB x18)],.cells 138 [(zg x19),(zg x20),(zg x21),(zg x22)]],GL,0,[],zN⟩) | .l8 x0 x1 x2 x3 x4 x5 x6 x7 x8 x9 x10 x11 x12 x13 x14 x15 x16 x17=>(8,⟨mkE [(7,(zg x0)),(30,.agg [(avB x1),(avB x2),(avB x3),(avB x4),(avB x5),(avB x6),(avB x7),(avB x8),(avB x9),(avB x10),(avB x11),(avB x12),(avB x13),(avB x14),(avB x15),(avB x16)]),(31,(zg x17))] 39 0,[],GL,0,[],zN⟩) | .l35 x0 x1 x2 x3 x4 x5 x6 x7 x8 x9 x10 x11 x12 x13 x14 x15 x16 x17=>(35,⟨mkE [(7,(zg x0)),(30,.agg [(avB x1),(avB x2),(avB x3),(avB x4),(avB x5),(avB x6),(avB x7),(avB x8),(avB x9),(avB x10),(avB x11),(avB x12),(avB x13),(avB x14),(avB x15),(avB x16)]),(31,(zg x17))] 39 0,[],GL,0,[],zN⟩)
def ziD(x:zf):L81->Tree L81 R81 | .l0 x0 x1 x2 x3 x4 x5 x6 x7 x8 x9 x10 x11 x12 x13 x14 x15 x16=>.c (decide (x0<x.qe.length)) (.g (zO x0 x.qe.length) <| .j (.l4 x0 ((zi x.qe x0.toNat).qc) 0 x1 x2 x3 x4 x5 x6 x7 x8 x9 x10 x11 x12 x13 x14 x15 x16 ((zi x.qe x0.toNat).page) ((zi x.qe x0.toNat).qc) ((zi x.qe x0.toNat).frame) ((zi x.qe x0.toNat).qv))) (.j (.l8 0 x1 x2 x3 x4 x5 x6 x7 x8 x9 x10 x11 x12 x13 x14 x15 x16 0)) | .l4 x0 x1 x2 x3 x4 x5 x6 x7 x8 x9 x10 x11 x12 x13 x14 x15 x16 x17 x18 x19 x20 x21 x22 =>let y2:=bop .quo .i64 (i64.wrap (x19+x2)) 16;let y1:=(List.set ([x3,x4,x5,x6,x7,x8,x9,x10,x11,x12,x13,x14,x15,x16,x17,x18]:List Bool) (y2.toNat) true);.c (decide (x2<x1)) (.g (zO y2 16) <| .j (.l4 x0 x1 (i64.wrap (x2+1)) (zbJ y1 0) (zbJ y1 1) (zbJ y1 2) (zbJ y1 3) (zbJ y1 4) (zbJ y1 5) (zbJ y1 6) (zbJ y1 7) (zbJ y1 8) (zbJ y1 9) (zbJ y1 10) (zbJ y1 11) (zbJ y1 12) (zbJ y1 13) (zbJ y1 14) (zbJ y1 15) x19 x20 x21 x22)) (.j (.l0 (i64.wrap (x0+1)) x3 x4 x5 x6 x7 x8 x9 x10 x11 x12 x13 x14 x15 x16 x17 x18)) | .l8 x0 x1 x2 x3 x4 x5 x6 x7 x8 x9 x10 x11 x12 x13 x14 x15 x16 x17=>.c (decide (x17<16)) (.g (zO x17 16) <| .c (zbJ ([x1,x2,x3,x4,x5,x6,x7,x8,x9,x10,x11,x12,x13,x14,x15,x16]:List Bool) x17.toNat) (.j (.l35 (i64.wrap (x0+1)) x1 x2 x3 x4 x5 x6 x7 x8 x9 x10 x11 x12 x13 x14 x15 x16 x17)) (.j (.l35 x0 x1 x2 x3 x4 x5 x6 x7 x8 x9 x10 x11 x12 x13 x14 x15 x16 x17))) (.r x0) | .l35 x0 x1 x2 x3 x4 x5 x6 x7 x8 x9 x10 x11 x12 x13 x14 x15 x16 x17=>.j (.l8 x0 x1 x2 x3 x4 x5 x6 x7 x8 x9 x10 x11 x12 x13 x14 x15 x16 (i64.wrap (x17+1)))
def zMF(x:zf):Tree L81 R81:=.j (.l0 0 false false false false false false false false false false false false false false false false)
def zlf(x:zf):L81->Option R81:=zal (ziD x)
theorem zeA(x:zf)(l:L81):zlf x l=(ziD x l).run (zlf x):=zE _ l
def zwl(x:zf):Option R81:=(zMF x).run (zlf x)
theorem zOA(x:zf):Oks 81 [.agg (Ty.enc .sPartition x)] [] (zwl x) to81:=zL K0 (H:=H81) zJ Tryz.func81 rfl (by kernel_rfl) (st81 x) (fun J l=>by cases l <;> kernel_rfl) (fun J=>by kernel_rfl)
abbrev zzc:=(List Int) × Bool
def zQF(r:zzc):Ans:=⟨.tup [.sl (.i .u32) r.1,(avB r.2)],[]⟩
inductive zxa where | l0 (x0:Int)
def H180:zab:=htt [] [(0,⟨fgt [0,4,19,20,21] 33 0,[]⟩)] [(.slot 0,.sl (.i .u32))]
def zPx(l_0:(List Int)):zxa->Nat × St | .l0 x0=>(0,⟨mkE [(0,.sl (.i .u32) l_0),(4,(zu (zt l_0 0))),(19,.sl (.i .u32) ((l_0.take (l_0.length:Int).toNat).drop (u32.wrap (1+zt l_0 0)).toNat)),(20,(zg (((l_0.take (l_0.length:Int).toNat).drop (u32.wrap (1+zt l_0 0)).toNat).length))),(21,(zg x0))] 33 0,[],GL,0,[],zN⟩)
def zqc(l_0:(List Int)):zxa->Tree zxa zzc | .l0 x0 =>let y1:=u32.wrap (1+zt l_0 0);let y2:=((l_0.take (l_0.length:Int).toNat).drop y1.toNat);let y3:=(l_0.take y1.toNat).drop 1;.c (decide (x0<y2.length)) (.g (zO x0 y2.length) <| .c (!((zt y2 x0.toNat:Int)==0)) (.r ([],false)) (.j (.l0 (i64.wrap (x0+1))))) (.g (inS 1 y1 l_0.length) <| .g (leB ((([]:List Int).length+(y3:List Int).length)*4) 140737488355328) <| .r ((([]:List Int)++y3),true))
def zAk(l_0:(List Int)):Tree zxa zzc:=.g (zO 0 l_0.length) <| .c (decide ((zt l_0 0:Int)>(u32.wrap (i64.wrap (l_0.length-1))))) (.r ([],false)) (.g (inS (u32.wrap (1+zt l_0 0)) l_0.length l_0.length) <| .j (.l0 0))
def zqV(l_0:(List Int)):zxa->Option zzc:=zal (zqc l_0)
theorem zpm(l_0:(List Int))(l:zxa):zqV l_0 l=(zqc l_0 l).run (zqV l_0):=zE _ l
def zns(l_0:(List Int)):Option zzc:=(zAk l_0).run (zqV l_0)
theorem zI9(l_0:(List Int)):Oks 180 [.sl (.i .u32) l_0] [] (zns l_0) zQF:=zL K0 (H:=H180) zJ Tryz.func180 rfl (by kernel_rfl) (zPx l_0) (fun J l=>by cases l <;> kernel_rfl) (fun J=>by kernel_rfl)
abbrev R95:=Int
def to95(r:R95):Ans:=⟨(zg r),[]⟩
inductive L95 where | l0 (x0:Int)
def H95:zab:=htt [] [(0,⟨fgt [1,2,5] 44 0,[]⟩)] []
def st95(p:zf)(page:Int):L95->Nat × St | .l0 x0=>(0,⟨mkE [(1,(zg page)),(2,.ref 0 0),(5,(zg x0))] 44 0,[.cells 72 (Ty.enc .sPartition p)],GL,0,[],zN⟩)
def zvj(p:zf)(page:Int):L95->Tree L95 R95 | .l0 x0 =>let y1:=zi p.qe x0.toNat;let y2:=zO x0 p.qe.length;let y3:=i64.wrap (x0+1);.c (decide (x0<p.qe.length)) (.g y2 <| .c (decide ((page:Int)>=y1.page)) (.g y2 <| .g y2 <| .c (decide ((page:Int)<(i64.wrap (y1.page+y1.qc)))) (.g y2 <| .r (y1.qv)) (.j (.l0 y3))) (.j (.l0 y3))) (.r 0)
def zMI(p:zf)(page:Int):Tree L95 R95:=.j (.l0 0)
def zwa(p:zf)(page:Int):L95->Option R95:=zal (zvj p page)
theorem zta(p:zf)(page:Int)(l:L95):zwa p page l=(zvj p page l).run (zwa p page):=zE _ l
def zwq(p:zf)(page:Int):Option R95:=(zMI p page).run (zwa p page)
theorem zOO(p:zf)(page:Int):Oks 95 [.agg (Ty.enc .sPartition p),(zg page)] [] (zwq p page) to95:=zL K0 (H:=H95) zJ Tryz.func95 rfl (by kernel_rfl) (st95 p page) (fun J l=>by cases l <;> kernel_rfl) (fun J=>by kernel_rfl)
abbrev zyP:=Int
def zPK(r:zyP):Ans:=⟨(zg r),[]⟩
inductive zwJ where | l0 (x0:Int) (x1:Int) | l15 (x0:Int) (x1:Int)
def H110:zab:=htt [7] [(0,⟨fgt [1,2,3,7,11,12] 37 0,[]⟩),(15,⟨fgt [1,2,3,7,11,12] 37 0,[]⟩)] []
def zO6(p:zf)(ql:Int)(qb:Bool):zwJ->Nat × St | .l0 x0 x1=>(0,⟨mkE [(1,(zg ql)),(2,(avB qb)),(3,.ref 0 0),(7,(zg x0)),(11,(zg p.qt.length)),(12,(zg x1))] 37 0,[.cells 72 (Ty.enc .sPartition p)],GL,0,[],zN⟩) | .l15 x0 x1=>(15,⟨mkE [(1,(zg ql)),(2,(avB qb)),(3,.ref 0 0),(7,(zg x0)),(11,(zg p.qt.length)),(12,(zg x1))] 37 0,[.cells 72 (Ty.enc .sPartition p)],GL,0,[],zN⟩)
def zl0(p:zf)(ql:Int)(qb:Bool):zwJ->Tree zwJ zyP | .l0 x0 x1 =>let y1:=zbe p.qt x1.toNat;let y2:=zO x1 p.qt.length;.c (decide (x1<p.qt.length)) (.g y2 <| .c ((y1.ql:Int)==ql) (.g y2 <| .c ((y1.qb)==qb) (.j (.l15 (i64.wrap (x0+1)) x1)) (.j (.l15 x0 x1))) (.j (.l15 x0 x1))) (.r x0) | .l15 x0 x1=>.j (.l0 x0 (i64.wrap (x1+1)))
def zHo(p:zf)(ql:Int)(qb:Bool):Tree zwJ zyP:=.j (.l0 0 0)
def zie(p:zf)(ql:Int)(qb:Bool):zwJ->Option zyP:=zal (zl0 p ql qb)
theorem zkg(p:zf)(ql:Int)(qb:Bool)(l:zwJ):zie p ql qb l=(zl0 p ql qb l).run (zie p ql qb):=zE _ l
def zkl(p:zf)(ql:Int)(qb:Bool):Option zyP:=(zHo p ql qb).run (zie p ql qb)
theorem zIe(p:zf)(ql:Int)(qb:Bool):Oks 110 [.agg (Ty.enc .sPartition p),(zg ql),(avB qb)] [] (zkl p ql qb) zPK:=zL K0 (H:=H110) zJ Tryz.func110 rfl (by kernel_rfl) (zO6 p ql qb) (fun J l=>by cases l <;> kernel_rfl) (fun J=>by kernel_rfl)
abbrev R32:=(Option zaE) × Int
def to32(r:R32):Ans:=⟨.tup [.op .sBulkheadref05Memory r.1,(zg r.2)],[]⟩
def H32:zab:=⟨fun _=>false,fun _=>⟨[],[]⟩,[(.slot 0,.op .sBulkheadref05Memory)],G0,zN⟩
def znB(qx:(List Int)):Option R32:=Tree.run0 <|
 .c (decide ((qx.length:Int)>16384))
 (.r (none,2))
 (.c ((qx.length:Int)==0)
 (.r (none,50))
 (.c (!(((bop .rem .i64 qx.length 16):Int)==0))
 (.r (none,50))
 (.g (leB ((([]:List Int).length+(qx:List Int).length)*4) 140737488355328) <|
 .r ((some (⟨(([]:List Int)++qx)⟩:zaE)),0))))
theorem zNP(qx:(List Int)):Oks 32 [.sl (.i .u32) qx] [] (znB qx) to32:=zM K0 (H:=H32) zJ Tryz.func32 rfl (by kernel_rfl) (fun J=>by kernel_rfl)
abbrev R171:=Int
def zQz(r:R171):Ans:=⟨(zg r),[]⟩
def zgD(m:(Option ze))(f:zy):R171:=Tree.val (L:=Empty) <|
 .c m.isNone
 (.r 3)
 (.c (decide ((f.qx:Int)<1))
 (.r 1)
 (.c (decide ((f.qx:Int)>16))
 (.r 1)
 (.c (decide ((f.qy:Int)<1))
 (.r 1)
 (.c (decide ((f.qy:Int)>8))
 (.r 1)
 (.r 0)))))
theorem zI0(m:(Option ze))(f:zy):Oks 171 [.op .sMemMemory m,.agg [(zg f.qx),(zg f.qy)]] [] (some (zgD m f)) zQz:=zbx K0 (H:=H0) zJ Tryz.func171 rfl (by kernel_rfl) rfl (fun J=>by kernel_rfl)
abbrev R142:=Bool
def zQc(r:R142):Ans:=⟨(avB r),[]⟩
def zBZ(a:z7)(b:z7):R142:=Tree.val (L:=Empty) <|
 .c (!((a.qu:Int)==b.qu))
 (.r (decide ((a.qu:Int)<b.qu)))
 (.r (decide ((a.qk:Int)<b.qk)))
theorem zIx(a:z7)(b:z7):Oks 142 [.agg (Ty.enc .sFeed a),.agg (Ty.enc .sFeed b)] [] (some (zBZ a b)) zQc:=zbx K0 (H:=H0) zJ Tryz.func142 rfl (by kernel_rfl) rfl (fun J=>by kernel_rfl)
abbrev R157:=Bool
def zQp(r:R157):Ans:=⟨(avB r),[]⟩
def zv2(a:Int)(many:Int)(b:Int)(others:Int):R157:=Tree.val (L:=Empty) <|
 .c (decide ((a:Int)<(i64.wrap (b+others))))
 (.r (decide ((b:Int)<(i64.wrap (a+many)))))
 (.r false)
theorem zIM(a:Int)(many:Int)(b:Int)(others:Int):Oks 157 [(zg a),(zg many),(zg b),(zg others)] [] (some (zv2 a many b others)) zQp:=zbx K0 (H:=H0) zJ Tryz.func157 rfl (by kernel_rfl) rfl (fun J=>by kernel_rfl)
abbrev R114:=zx
def zPO(r:R114):Ans:=⟨.agg [(zg r.e),(zg r.where_.first),(zg r.where_.second)],[]⟩
def zag(holds:Bool)(e:Int)(w:za0):R114:=Tree.val (L:=Empty) <|
 .c holds
 (.r fine)
 (.r (⟨e,w⟩:zx))
theorem zIh(holds:Bool)(e:Int)(w:za0):Oks 114 [(avB holds),(zg e),.agg [(zg w.first),(zg w.second)]] [] (some (zag holds e w)) zPO:=zbx K0 (H:=H0) zJ Tryz.func114 rfl (by kernel_rfl) rfl (fun J=>by kernel_rfl)
abbrev R134:=Bool
def zP4(r:R134):Ans:=⟨(avB r),[]⟩
def zaQ(n_0:Int)(least:Int)(most:Int):R134:=Tree.val (L:=Empty) <|
 .c (decide ((n_0:Int)>=least))
 (.r (decide ((n_0:Int)<=most)))
 (.r false)
theorem zIp(n_0:Int)(least:Int)(most:Int):Oks 134 [(zg n_0),(zg least),(zg most)] [] (some (zaQ n_0 least most)) zP4:=zbx K0 (H:=H0) zJ Tryz.func134 rfl (by kernel_rfl) rfl (fun J=>by kernel_rfl)
abbrev R96:=zaN
def to96(r:R96):Ans:=⟨.agg [(zu r.one),(zu r.two),(zu r.three)],[]⟩
def zi8(n_0:Int):R96:=(⟨(u32.wrap n_0),0,0⟩:zaN)
theorem zOP(n_0:Int):Oks 96 [(zg n_0)] [] (some (zi8 n_0)) to96:=zbj K0 (H:=H0) zJ Tryz.func96 rfl (by kernel_rfl) (fun J=>by kernel_rfl)
abbrev R24:=za
def to24(r:R24):Ans:=⟨.agg [(zg r.qr),(zg r.major),(zg r.kernel),(zg r.room),.own 0,.own 1,.own 2],[.row 136 (.sl .sWindow) [(0,135)] [] r.qp,.row 72 .sPartition [(6,138),(7,74)] [] r.qq,.arr 76 .sChannel r.qw]⟩
inductive L24 where | l0 (x0:Int) (x1:List (List zan)) | l4 (x0:Int) (x1:List (List zan)) (x2:List zf)
def H24:zab:=⟨fun n=>[].any (Nat.beq n),zfi [(0,⟨fgt [1,2,3,4] 79 0,[(.box 3 4,.own 136 (.sl .sWindow))]⟩),(4,⟨fgt [1,2,3,6] 79 0,[(.box 3 5,.own 72 .sPartition)]⟩)],[],G0,(fun e=>match e with | 72=>[(6,138),(7,74)] | 136=>[(0,135)] | _=>[])⟩
def st24(c:za):L24->Nat × St | .l0 x0 x1=>(0,⟨mkE [(1,.ref 0 0),(2,.ref 1 0),(3,.ref 2 0),(4,(zg x0))] 79 0,[.cells 26 (Ty.enc .sConfig c),.cells 26 [(zg 0),(zg 0),(zg 0),(zg 0),.v (.slice none 0 0),.v (.slice none 0 0),.v (.slice none 0 0)],.cells 26 [(zg c.qr),(zg c.major),(zg c.kernel),(zg c.room),.own 3,.sl .sPartition c.qq,.sl .sChannel c.qw],.row 136 (.sl .sWindow) [(0,135)] [] x1],GL,0,[],(fun e=>match e with | 72=>[(6,138),(7,74)] | 136=>[(0,135)] | _=>[])⟩) | .l4 x0 x1 x2=>(4,⟨mkE [(1,.ref 0 0),(2,.ref 1 0),(3,.ref 2 0),(6,(zg x0))] 79 0,[.cells 26 (Ty.enc .sConfig c),.cells 26 [(zg 0),(zg 0),(zg 0),(zg 0),.v (.slice none 0 0),.v (.slice none 0 0),.v (.slice none 0 0)],.cells 26 [(zg c.qr),(zg c.major),(zg c.kernel),(zg c.room),.own 3,.own 4,.sl .sChannel c.qw],.row 136 (.sl .sWindow) [(0,135)] [] x1,.row 72 .sPartition [(6,138),(7,74)] [] x2],GL,0,[],(fun e=>match e with | 72=>[(6,138),(7,74)] | 136=>[(0,135)] | _=>[])⟩)
def zoh(c:za):L24->Tree L24 R24 | .l0 x0 x1 =>let y1:=(([]:List zan)++zD c.qp x0.toNat);let y2:=(x1:List (List zan));.c (decide (x0<c.qp.length)) (.g (zO x0 c.qp.length) <| .g (leB ((([]:List zan).length+(zD c.qp x0.toNat:List zan).length)*24) 140737488355328) <| .g (leB ((y2.length+([y1]:List (List zan)).length)*24) 140737488355328) <| .j (.l0 (i64.wrap (x0+1)) (y2++[y1]))) (.j (.l4 0 x1 [])) | .l4 x0 x1 x2 =>let y1:=zb c.qq x0.toNat;let y2:=(⟨y1.name,y1.entry,y1.action,y1.qR,y1.qE,y1.qW,(([]:List Region)++y1.qe),(([]:List zb9)++y1.qt)⟩:zf);let y3:=zO x0 c.qq.length;let y4:=(x2:List zf);.c (decide (x0<c.qq.length)) (.g y3 <| .g y3 <| .g (leB ((([]:List Region).length+(y1.qe:List Region).length)*32) 140737488355328) <| .g y3 <| .g (leB ((([]:List zb9).length+(y1.qt:List zb9).length)*16) 140737488355328) <| .g (leB ((y4.length+([y2]:List zf).length)*104) 140737488355328) <| .j (.l4 (i64.wrap (x0+1)) x1 (y4++[y2]))) (.g (leB ((([]:List zI).length+(c.qw:List zI).length)*24) 140737488355328) <| .r (⟨c.qr,c.major,c.kernel,c.room,x1,x2,(([]:List zI)++c.qw)⟩:za))
def zEK(c:za):Tree L24 R24:=.j (.l0 0 [])
def zm7(c:za):L24->Option R24:=zal (zoh c)
theorem zjb(c:za)(l:L24):zm7 c l=(zoh c l).run (zm7 c):=zE _ l
def ztc(c:za):Option R24:=(zEK c).run (zm7 c)
theorem zNH(c:za):Oks 24 [.agg (Ty.enc .sConfig c)] [] (ztc c) to24:=zL K0 (H:=H24) zJ Tryz.func24 rfl (by kernel_rfl) (st24 c) (fun J l=>by cases l <;> kernel_rfl) (fun J=>by kernel_rfl)
abbrev zyV:=Bool
def zP3(r:zyV):Ans:=⟨(avB r),[]⟩
inductive zwP where | l0 (x0:Int) | l4 (x0:Int)
def H128:zab:=htt [] [(0,⟨fgt [2,3,20,21,22] 67 0,[]⟩),(4,⟨fgt [2,49,50,51] 67 0,[]⟩)] []
def zPc(c:za)(x:zf):zwP->Nat × St | .l0 x0=>(0,⟨mkE [(2,.ref 0 0),(3,.ref 1 0),(20,.sl .sRegion x.qe),(21,(zg x.qe.length)),(22,(zg x0))] 67 0,[.cells 26 (Ty.enc .sConfig c),.cells 72 (Ty.enc .sPartition x)],GL,0,[],zN⟩) | .l4 x0=>(4,⟨mkE [(2,.ref 0 0),(49,.sl .sPort x.qt),(50,(zg x.qt.length)),(51,(zg x0))] 67 0,[.cells 26 (Ty.enc .sConfig c)],GL,0,[],zN⟩)
def zjK(c:za)(x:zf):zwP->Tree zwP zyV | .l0 x0=>.c (decide (x0<x.qe.length)) (.g (zO x0 x.qe.length) <| .c (decide (((zi x.qe x0.toNat).page:Int)<0)) (.r false) (.c (decide (((zi x.qe x0.toNat).page:Int)>256)) (.r false) (.c (decide (((zi x.qe x0.toNat).qc:Int)<1)) (.r false) (.c (decide (((zi x.qe x0.toNat).qc:Int)>(i64.wrap (256-(zi x.qe x0.toNat).page)))) (.r false) (.j (.l0 (i64.wrap (x0+1)))))))) (.j (.l4 0)) | .l4 x0=>.c (decide (x0<x.qt.length)) (.g (zO x0 x.qt.length) <| .c (decide (((zbe x.qt x0.toNat).ql:Int)<0)) (.r false) (.c (decide (((zbe x.qt x0.toNat).ql:Int)>=c.qw.length)) (.r false) (.j (.l4 (i64.wrap (x0+1)))))) (.r true)
def zz5(c:za)(x:zf):Tree zwP zyV:=.c (decide ((x.qe.length:Int)>8)) (.r false) (.c (decide ((x.qt.length:Int)>8)) (.r false) (.j (.l0 0)))
def zm0(c:za)(x:zf):zwP->Option zyV:=zal (zjK c x)
theorem zhl(c:za)(x:zf)(l:zwP):zm0 c x l=(zjK c x l).run (zm0 c x):=zE _ l
def znj(c:za)(x:zf):Option zyV:=(zz5 c x).run (zm0 c x)
theorem zIn(c:za)(x:zf):Oks 128 [.agg (Ty.enc .sConfig c),.agg (Ty.enc .sPartition x)] [] (znj c x) zP3:=zL K0 (H:=H128) zJ Tryz.func128 rfl (by kernel_rfl) (zPc c x) (fun J l=>by cases l <;> kernel_rfl) (fun J=>by kernel_rfl)
abbrev zze:=Bool
def zQR(r:zze):Ans:=⟨(avB r),[]⟩
inductive zxg where | l0 (x0:Int) | l4 (x0:Int) (x1:Int) (x2:List Int) (x3:Int) (x4:Int)
def H231:zab:=htt [] [(0,⟨fgt [0,1,2,7,14,15,16] 56 0,[]⟩),(4,⟨fgt [0,1,2,7,9,14,15,16,36,37,38] 56 0,[]⟩)] []
def zPD(qn:Int)(qx:Int)(qt:(List Int)):zxg->Nat × St | .l0 x0=>(0,⟨mkE [(0,(zg qn)),(1,(zg qx)),(2,.sl (.i .i64) qt),(7,(zg (i64.wrap (3+qx)))),(14,.sl (.i .i64) qt),(15,(zg qt.length)),(16,(zg x0))] 56 0,[],GL,0,[],zN⟩) | .l4 x0 x1 x2 x3 x4=>(4,⟨mkE [(0,(zg qn)),(1,(zg qx)),(2,.sl (.i .i64) qt),(7,(zg (i64.wrap (3+qx)))),(9,(zg x0)),(14,.sl (.i .i64) qt),(15,(zg qt.length)),(16,(zg x1)),(36,.sl (.i .i64) x2),(37,(zg x3)),(38,(zg x4))] 56 0,[],GL,0,[],zN⟩)
def zjP(qn:Int)(qx:Int)(qt:(List Int)):zxg->Tree zxg zze | .l0 x0 =>let y1:=(qt.take x0.toNat).drop 0;let y2:=inS 0 x0 qt.length;let y3:=zt qt x0.toNat;.c (decide (x0<qt.length)) (.g (zO x0 qt.length) <| .c (decide ((zt qt x0.toNat:Int)<(i64.wrap ((i64.wrap (qn+2))+qx)))) (.c (decide ((qn:Int)<(i64.wrap (zt qt x0.toNat+(i64.wrap (3+qx)))))) (.r false) (.g y2 <| .j (.l4 y3 x0 y1 (y1.length) 0))) (.g y2 <| .j (.l4 y3 x0 y1 (y1.length) 0))) (.r true) | .l4 x0 x1 x2 x3 x4 =>let y1:=i64.wrap (3+qx);let y2:=i64.wrap (x4+1);.c (decide (x4<x3)) (.g (zO x4 x2.length) <| .c (decide (x0<(i64.wrap (zt x2 x4.toNat+y1)))) (.c (decide ((zt x2 x4.toNat:Int)<(i64.wrap (x0+y1)))) (.r false) (.j (.l4 x0 x1 x2 x3 y2))) (.j (.l4 x0 x1 x2 x3 y2))) (.j (.l0 (i64.wrap (x1+1))))
def zAq(qn:Int)(qx:Int)(qt:(List Int)):Tree zxg zze:=.j (.l0 0)
def zdO(qn:Int)(qx:Int)(qt:(List Int)):zxg->Option zze:=zal (zjP qn qx qt)
theorem zhq(qn:Int)(qx:Int)(qt:(List Int))(l:zxg):zdO qn qx qt l=(zjP qn qx qt l).run (zdO qn qx qt):=zE _ l
def zny(qn:Int)(qx:Int)(qt:(List Int)):Option zze:=(zAq qn qx qt).run (zdO qn qx qt)
theorem zJC(qn:Int)(qx:Int)(qt:(List Int)):Oks 231 [(zg qn),(zg qx),.sl (.i .i64) qt] [] (zny qn qx qt) zQR:=zL K0 (H:=H231) zJ Tryz.func231 rfl (by kernel_rfl) (zPD qn qx qt) (fun J l=>by cases l <;> kernel_rfl) (fun J=>by kernel_rfl)
abbrev R90:=Int × Int
def to90(r:R90):Ans:=⟨.tup [(zg r.1),(zg r.2)],[]⟩
inductive L90 where | l0 (x0:Int) | l4 (x0:Int) (x1:Int) (x2:Int) (x3:Int)
def H90:zab:=htt [] [(0,⟨fgt [1,2,10,11] 52 0,[]⟩),(4,⟨fgt [1,2,6,10,11,20,21] 52 0,[]⟩)] []
def st90(c:za)(ql:Int):L90->Nat × St | .l0 x0=>(0,⟨mkE [(1,(zg ql)),(2,.ref 0 0),(10,(zg c.qq.length)),(11,(zg x0))] 52 0,[.cells 26 (Ty.enc .sConfig c)],GL,0,[],zN⟩) | .l4 x0 x1 x2 x3=>(4,⟨mkE [(1,(zg ql)),(2,.ref 0 0),(6,(zg x0)),(10,(zg c.qq.length)),(11,(zg x1)),(20,(zg x2)),(21,(zg x3))] 52 0,[.cells 26 (Ty.enc .sConfig c)],GL,0,[],zN⟩)
def zoo(c:za)(ql:Int):L90->Tree L90 R90 | .l0 x0=>.c (decide (x0<c.qq.length)) (.g (zO x0 c.qq.length) <| .j (.l4 x0 x0 (((zb c.qq x0.toNat).qt).length) 0)) (.r (0,0)) | .l4 x0 x1 x2 x3 =>let y1:=(zb c.qq x0.toNat).qt;let y2:=zO x0 c.qq.length;let y3:=i64.wrap (x3+1);let y4:=zbe y1 x3.toNat;.c (decide (x3<x2)) (.g y2 <| .g (zO x3 y1.length) <| .c ((y4.ql:Int)==ql) (.g y2 <| .g (zO x3 y1.length) <| .c (y4.qb) (.r (x0,x3)) (.j (.l4 x0 x1 x2 y3))) (.j (.l4 x0 x1 x2 y3))) (.j (.l0 (i64.wrap (x1+1))))
def zMG(c:za)(ql:Int):Tree L90 R90:=.j (.l0 0)
def zs8(c:za)(ql:Int):L90->Option R90:=zal (zoo c ql)
theorem zjo(c:za)(ql:Int)(l:L90):zs8 c ql l=(zoo c ql l).run (zs8 c ql):=zE _ l
def zCb(c:za)(ql:Int):Option R90:=(zMG c ql).run (zs8 c ql)
theorem zOJ(c:za)(ql:Int):Oks 90 [.agg (Ty.enc .sConfig c),(zg ql)] [] (zCb c ql) to90:=zL K0 (H:=H90) zJ Tryz.func90 rfl (by kernel_rfl) (st90 c ql) (fun J l=>by cases l <;> kernel_rfl) (fun J=>by kernel_rfl)
abbrev R74:=zb9 × Bool
def to74(r:R74):Ans:=⟨.tup [.agg [(zg r.1.ql),(avB r.1.qb)],(avB r.2)],[]⟩
def zhL(d:(Option zG))(p:Int)(port:Int):Option R74:=Tree.run0 <|
 .c d.isNone
 (.r ((⟨0,false⟩:zb9),false))
 (.c (decide ((p:Int)<0))
 (.r ((⟨0,false⟩:zb9),false))
 (.g d.isSome <|
 .c (decide ((p:Int)>=((d.getD default).c.qq).length))
 (.r ((⟨0,false⟩:zb9),false))
 (.c (decide ((port:Int)<0))
 (.r ((⟨0,false⟩:zb9),false))
 (.g d.isSome <|
 .g (zO p ((d.getD default).c.qq).length) <|
 .c (decide ((port:Int)>=((zb ((d.getD default).c.qq) p.toNat).qt).length))
 (.r ((⟨0,false⟩:zb9),false))
 (.g d.isSome <|
 .g (zO p ((d.getD default).c.qq).length) <|
 .g (zO port ((zb ((d.getD default).c.qq) p.toNat).qt).length) <|
 .r ((zbe ((zb ((d.getD default).c.qq) p.toNat).qt) port.toNat),true))))))
theorem zOt(d:(Option zG))(p:Int)(port:Int):Oks 74 [.op .sDuctDucts d,(zg p),(zg port)] [] (zhL d p port) to74:=zM K0 (H:=H0) zJ Tryz.func74 rfl (by kernel_rfl) (fun J=>by kernel_rfl)
abbrev R79:=Int
def to79(r:R79):Ans:=⟨(zg r),[]⟩
def zqQ(h_0:zI):R79:=Tree.val (L:=Empty) <|
 .c (decide ((h_0.qx:Int)<1))
 (.r 0)
 (.c (decide ((h_0.qx:Int)>16))
 (.r 0)
 (.c ((h_0.kind:Int)==1)
 (.r (i64.wrap (2+h_0.qx)))
 (.c ((h_0.kind:Int)==2)
 (.c (decide ((h_0.qy:Int)>=1))
 (.c (decide ((h_0.qy:Int)<=8))
 (.r (i64.wrap (1+(i64.wrap (h_0.qy*(i64.wrap (1+h_0.qx)))))))
 (.r 0))
 (.r 0))
 (.r 0))))
theorem zOy(h_0:zI):Oks 79 [.agg (Ty.enc .sChannel h_0)] [] (some (zqQ h_0)) to79:=zbx K0 (H:=H0) zJ Tryz.func79 rfl (by kernel_rfl) rfl (fun J=>by kernel_rfl)
abbrev R13:=zB
def to13(r:R13):Ans:=⟨.agg [(zu r.qz.e0),(zu r.qz.e1),(zu r.qz.e2),(zu r.qz.e3),(zu r.qz.e4),(zu r.qz.e5),(zu r.qz.e6),(zu r.qz.e7),(zu r.qz.e8),(zu r.qz.e9),(zu r.qz.e10),(zu r.qz.e11),(zu r.qz.e12),(zu r.qz.e13),(zu r.qz.e14),(zu r.qz.e15),(zu r.pC)],[]⟩
inductive L13 where | l0 (x0:Int) (x1:Int) (x2:Int) (x3:Int) (x4:Int) (x5:Int) (x6:Int) (x7:Int) (x8:Int) (x9:Int) (x10:Int) (x11:Int) (x12:Int) (x13:Int) (x14:Int) (x15:Int) (x16:Int)
def H13:zab:=htt [] [(0,⟨fgt [1,2,3,4] 34 0,[]⟩)] []
def st13(o:zq):L13->Nat × St | .l0 x0 x1 x2 x3 x4 x5 x6 x7 x8 x9 x10 x11 x12 x13 x14 x15 x16=>(0,⟨mkE [(1,.ref 0 0),(2,.ref 1 0),(3,.ref 2 0),(4,(zg x0))] 34 0,[.cells 49 (Ty.enc .sBulkheadlaw25Op o),.cells 57 [(zu 0),(zu 0),(zu 0),(zu 0),(zu 0),(zu 0),(zu 0),(zu 0),(zu 0),(zu 0),(zu 0),(zu 0),(zu 0),(zu 0),(zu 0),(zu 0),(zu 0)],.cells 57 [(zu x1),(zu x2),(zu x3),(zu x4),(zu x5),(zu x6),(zu x7),(zu x8),(zu x9),(zu x10),(zu x11),(zu x12),(zu x13),(zu x14),(zu x15),(zu x16),(zu (u32.wrap (i64.wrap (9+o.a))))]],GL,0,[],zN⟩)
def zzD(o:zq):L13->Tree L13 R13 | .l0 x0 x1 x2 x3 x4 x5 x6 x7 x8 x9 x10 x11 x12 x13 x14 x15 x16 =>let y1:=(List.set ([x1,x2,x3,x4,x5,x6,x7,x8,x9,x10,x11,x12,x13,x14,x15,x16]:List Int) x0.toNat (u32.wrap (i64.wrap (1000+(i64.wrap (7*x0))))));.c (decide (x0<16)) (.g (zO x0 16) <| .j (.l0 (i64.wrap (x0+1)) (zt y1 0) (zt y1 1) (zt y1 2) (zt y1 3) (zt y1 4) (zt y1 5) (zt y1 6) (zt y1 7) (zt y1 8) (zt y1 9) (zt y1 10) (zt y1 11) (zt y1 12) (zt y1 13) (zt y1 14) (zt y1 15))) (.g (zO 1 16) <| .g (zO 2 16) <| .g (zO 3 16) <| .r (⟨(⟨x1,o.r1,o.r2,o.r3,x5,x6,x7,x8,x9,x10,x11,x12,x13,x14,x15,x16⟩:z6),(u32.wrap (i64.wrap (9+o.a)))⟩:zB))
def zEG(o:zq):Tree L13 R13:=.j (.l0 0 0 0 0 0 0 0 0 0 0 0 0 0 0 0 0 0)
def zgF(o:zq):L13->Option R13:=zal (zzD o)
theorem zsJ(o:zq)(l:L13):zgF o l=(zzD o l).run (zgF o):=zE _ l
def zf2(o:zq):Option R13:=(zEG o).run (zgF o)
theorem zNz(o:zq):Oks 13 [.agg (Ty.enc .sBulkheadlaw25Op o)] [] (zf2 o) to13:=zL K0 (H:=H13) zJ Tryz.func13 rfl (by kernel_rfl) (st13 o) (fun J l=>by cases l <;> kernel_rfl) (fun J=>by kernel_rfl)
abbrev zyQ:=Bool
def zPM(r:zyQ):Ans:=⟨(avB r),[]⟩
inductive zwK where | l0 (x0:Int)
def H112:zab:=htt [] [(0,⟨fgt [1,2,10,11] 40 0,[]⟩)] []
def zO7(p:zf)(t:Int):zwK->Nat × St | .l0 x0=>(0,⟨mkE [(1,(zg t)),(2,.ref 0 0),(10,(zg p.qe.length)),(11,(zg x0))] 40 0,[.cells 72 (Ty.enc .sPartition p)],GL,0,[],zN⟩)
def zp1(p:zf)(t:Int):zwK->Tree zwK zyQ | .l0 x0 =>let y1:=zi p.qe x0.toNat;let y2:=i64.wrap (x0+1);let y3:=zO x0 p.qe.length;.c (decide (x0<p.qe.length)) (.g y3 <| .g y3 <| .c (decide (((bop .quo .i64 (y1.page) 16):Int)<=t)) (.c (decide ((t:Int)<=(bop .quo .i64 (i64.wrap ((i64.wrap (y1.page+y1.qc))-1)) 16))) (.r true) (.j (.l0 y2))) (.j (.l0 y2))) (.r false)
def zHp(p:zf)(t:Int):Tree zwK zyQ:=.j (.l0 0)
def zmY(p:zf)(t:Int):zwK->Option zyQ:=zal (zp1 p t)
theorem zpb(p:zf)(t:Int)(l:zwK):zmY p t l=(zp1 p t l).run (zmY p t):=zE _ l
def zkm(p:zf)(t:Int):Option zyQ:=(zHp p t).run (zmY p t)
theorem zIg(p:zf)(t:Int):Oks 112 [.agg (Ty.enc .sPartition p),(zg t)] [] (zkm p t) zPM:=zL K0 (H:=H112) zJ Tryz.func112 rfl (by kernel_rfl) (zO7 p t) (fun J l=>by cases l <;> kernel_rfl) (fun J=>by kernel_rfl)
abbrev zy1:=Int
def zQe(r:zy1):Ans:=⟨(zg r),[]⟩
inductive zwV where | l0 (x0:Int)
def H145:zab:=htt [] [(0,⟨fgt [1,2,19,20,21] 38 0,[]⟩)] []
def zPi(d:(Option zG))(p:Int)(port:Int)(ql:Int):zwV->Nat × St | .l0 x0=>(0,⟨mkE [(1,(zg p)),(2,(zg port)),(19,.sl .sDestPlace ((zH ((d.getD default).lay.qw) ql.toNat).qa)),(20,(zg (((zH ((d.getD default).lay.qw) ql.toNat).qa).length))),(21,(zg x0))] 38 0,[],GL,0,[],zN⟩)
def ztU(d:(Option zG))(p:Int)(port:Int)(ql:Int):zwV->Tree zwV zy1 | .l0 x0 =>let y1:=(zH ((d.getD default).lay.qw) ql.toNat).qa;let y2:=zcI y1 x0.toNat;let y3:=i64.wrap (x0+1);.c (decide (x0<y1.length)) (.g (zO x0 y1.length) <| .c ((y2.qk:Int)==p) (.c ((y2.port:Int)==port) (.r (y2.at_)) (.j (.l0 y3))) (.j (.l0 y3))) (.r (-1))
def zz8(d:(Option zG))(p:Int)(port:Int)(ql:Int):Tree zwV zy1:=.g d.isSome <| .g (zO ql ((d.getD default).lay.qw).length) <| .j (.l0 0)
def zif(d:(Option zG))(p:Int)(port:Int)(ql:Int):zwV->Option zy1:=zal (ztU d p port ql)
theorem zym(d:(Option zG))(p:Int)(port:Int)(ql:Int)(l:zwV):zif d p port ql l=(ztU d p port ql l).run (zif d p port ql):=zE _ l
def zgM(d:(Option zG))(p:Int)(port:Int)(ql:Int):Option zy1:=(zz8 d p port ql).run (zif d p port ql)
theorem zIA(d:(Option zG))(p:Int)(port:Int)(ql:Int):Oks 145 [.op .sDuctDucts d,(zg p),(zg port),(zg ql)] [] (zgM d p port ql) zQe:=zL K0 (H:=H145) zJ Tryz.func145 rfl (by kernel_rfl) (zPi d p port ql) (fun J l=>by cases l <;> kernel_rfl) (fun J=>by kernel_rfl)
abbrev R36:=Int
def to36(r:R36):Ans:=⟨(zg r),[]⟩
def zpv(s_0:(Option zr))(p:Int)(call:Int):Option R36:=Tree.run0 <|
 .c (decide ((p:Int)<0))
 (.r 251)
 (.g s_0.isSome <|
 .c (decide ((p:Int)>=((s_0.getD default).lay.qq).length))
 (.r 251)
 (.c (decide ((call:Int)<0))
 (.r 251)
 (.c (decide ((call:Int)>=8))
 (.r 251)
 (.r 0))))
theorem zNT(s_0:(Option zr))(p:Int)(call:Int):Oks 36 [.op .sCallsCalls s_0,(zg p),(zg call)] [] (zpv s_0 p call) to36:=zM K0 (H:=H0) zJ Tryz.func36 rfl (by kernel_rfl) (fun J=>by kernel_rfl)
abbrev zzf:=Bool
def zQS(r:zzf):Ans:=⟨(avB r),[]⟩
inductive zxh where | l0 (x0:Int)
def H232:zab:=htt [] [(0,⟨fgt [5,6,7] 14 0,[]⟩)] []
def zPE(l_0:(List Int)):zxh->Nat × St | .l0 x0=>(0,⟨mkE [(5,.sl (.i .u32) l_0),(6,(zg l_0.length)),(7,(zg x0))] 14 0,[],GL,0,[],zN⟩)
def zqe(l_0:(List Int)):zxh->Tree zxh zzf | .l0 x0=>.c (decide (x0<l_0.length)) (.g (zO x0 l_0.length) <| .c (!((zt l_0 x0.toNat:Int)==0)) (.r false) (.j (.l0 (i64.wrap (x0+1))))) (.r true)
def zHw(l_0:(List Int)):Tree zxh zzf:=.j (.l0 0)
def zqW(l_0:(List Int)):zxh->Option zzf:=zal (zqe l_0)
theorem zpo(l_0:(List Int))(l:zxh):zqW l_0 l=(zqe l_0 l).run (zqW l_0):=zE _ l
def zuN(l_0:(List Int)):Option zzf:=(zHw l_0).run (zqW l_0)
theorem zJD(l_0:(List Int)):Oks 232 [.sl (.i .u32) l_0] [] (zuN l_0) zQS:=zL K0 (H:=H232) zJ Tryz.func232 rfl (by kernel_rfl) (zPE l_0) (fun J l=>by cases l <;> kernel_rfl) (fun J=>by kernel_rfl)
abbrev R140:=Bool
def zQa(r:R140):Ans:=⟨(avB r),[]⟩
def zpa(a:Int)(many:Int)(b:Int)(others:Int):R140:=Tree.val (L:=Empty) <|
 .c (decide ((a:Int)<(i64.wrap (b+others))))
 (.r (decide ((b:Int)<(i64.wrap (a+many)))))
 (.r false)
theorem zIv(a:Int)(many:Int)(b:Int)(others:Int):Oks 140 [(zg a),(zg many),(zg b),(zg others)] [] (some (zpa a many b others)) zQa:=zbx K0 (H:=H0) zJ Tryz.func140 rfl (by kernel_rfl) rfl (fun J=>by kernel_rfl)
abbrev R10:=Int
def to10(r:R10):Ans:=⟨(zg r),[]⟩
inductive L10 where | l7 (x0:Int)
def H10:zab:=htt [3] [(7,⟨fgt [0,1] 13 0,[]⟩)] []
def st10(c:Int)(n_1:Int):L10->Nat × St | .l7 x0=>(7,⟨mkE [(0,(zg x0)),(1,(zg n_1))] 13 0,[],GL,0,[],zN⟩)
def zzB(c:Int)(n_1:Int):L10->Tree L10 R10 | .l7 x0=>.c (decide ((n_1:Int)=0)) (.n) (.r (dv .rem .i64 x0 n_1))
def zEE(c:Int)(n_1:Int):Tree L10 R10:=.c (decide ((c:Int)<0)) (.j (.l7 (uop .neg .i64 (i64.wrap (c+1))))) (.j (.l7 c))
def zv3(c:Int)(n_1:Int):L10->Option R10:=zal (zzB c n_1)
theorem zB2(c:Int)(n_1:Int)(l:L10):zv3 c n_1 l=(zzB c n_1 l).run (zv3 c n_1):=zE _ l
def zf1(c:Int)(n_1:Int):Option R10:=(zEE c n_1).run (zv3 c n_1)
theorem zNw(c:Int)(n_1:Int):Oks 10 [(zg c),(zg n_1)] [] (zf1 c n_1) to10:=zL K0 (H:=H10) zJ Tryz.func10 rfl (by kernel_rfl) (st10 c n_1) (fun J l=>by cases l <;> kernel_rfl) (fun J=>by kernel_rfl)
abbrev zGr:=Int × Int
def zFJ(r:zGr):Ans:=⟨(zg r.1),[.cells 3 [(zg r.2)]]⟩
def zb8(n:Int)(here:Int):zGr:=(here,(i64.wrap (here+n)))
theorem zIo(n:Int)(here:Int):Oks 129 [(zg n),.ref 0 0] [.cells 3 [(zg here)]] (some (zb8 n here)) zFJ:=zbj K0 (H:=H0) zJ Tryz.func129 rfl (by kernel_rfl) (fun J=>by kernel_rfl)
abbrev R87:=za0
def to87(r:R87):Ans:=⟨.agg [(zg r.first),(zg r.second)],[]⟩
def zlv(first:Int):R87:=(⟨first,(-1)⟩:za0)
theorem zOG(first:Int):Oks 87 [(zg first)] [] (some (zlv first)) to87:=zbj K0 (H:=H0) zJ Tryz.func87 rfl (by kernel_rfl) (fun J=>by kernel_rfl)
abbrev zyO:=Bool
def zPI(r:zyO):Ans:=⟨(avB r),[]⟩
inductive zwI where | l0 (x0:Int) | l4 (x0:Int)
def H108:zab:=htt [] [(0,⟨fgt [1,2,20,21] 75 0,[]⟩),(4,⟨fgt [1,2,53,54] 75 0,[]⟩)] []
def zO5(p:zf)(qw:Int):zwI->Nat × St | .l0 x0=>(0,⟨mkE [(1,(zg qw)),(2,.ref 0 0),(20,(zg p.qe.length)),(21,(zg x0))] 75 0,[.cells 72 (Ty.enc .sPartition p)],GL,0,[],zN⟩) | .l4 x0=>(4,⟨mkE [(1,(zg qw)),(2,.ref 0 0),(53,(zg p.qt.length)),(54,(zg x0))] 75 0,[.cells 72 (Ty.enc .sPartition p)],GL,0,[],zN⟩)
def zjI(p:zf)(qw:Int):zwI->Tree zwI zyO | .l0 x0 =>let y1:=zi p.qe x0.toNat;.c (decide (x0<p.qe.length)) (.g (zO x0 p.qe.length) <| .c (decide ((y1.page:Int)<0)) (.r false) (.c (decide ((y1.page:Int)>256)) (.r false) (.c (decide ((y1.qc:Int)<1)) (.r false) (.c (decide ((y1.qc:Int)>(i64.wrap (256-y1.page)))) (.r false) (.j (.l0 (i64.wrap (x0+1)))))))) (.j (.l4 0)) | .l4 x0 =>let y1:=((zbe p.qt x0.toNat).ql:Int);let y2:=zO x0 p.qt.length;.c (decide (x0<p.qt.length)) (.g y2 <| .c (decide (y1<0)) (.r false) (.g y2 <| .c (decide (y1>=qw)) (.r false) (.j (.l4 (i64.wrap (x0+1)))))) (.r true)
def zz0(p:zf)(qw:Int):Tree zwI zyO:=.c (decide ((p.qe.length:Int)>8)) (.r false) (.c (decide ((p.qt.length:Int)>8)) (.r false) (.j (.l0 0)))
def zmX(p:zf)(qw:Int):zwI->Option zyO:=zal (zjI p qw)
theorem zhj(p:zf)(qw:Int)(l:zwI):zmX p qw l=(zjI p qw l).run (zmX p qw):=zE _ l
def zni(p:zf)(qw:Int):Option zyO:=(zz0 p qw).run (zmX p qw)
theorem zIc(p:zf)(qw:Int):Oks 108 [.agg (Ty.enc .sPartition p),(zg qw)] [] (zni p qw) zPI:=zL K0 (H:=H108) zJ Tryz.func108 rfl (by kernel_rfl) (zO5 p qw) (fun J l=>by cases l <;> kernel_rfl) (fun J=>by kernel_rfl)
abbrev R91:=Bool
def to91(r:R91):Ans:=⟨(avB r),[]⟩
inductive L91 where | l0 (x0:Int) | l4 (x0:Int) (x1:Int) (x2:Int) (x3:Int) (x4:List Int)
def H91:zab:=htt [] [(0,⟨fgt [1,2,5] 75 0,[]⟩),(4,⟨fgt [1,2,5,6,7] 75 0,[]⟩)] []
def st91(c:za)(qi:(List z7)):L91->Nat × St | .l0 x0=>(0,⟨mkE [(1,.sl .sFeed qi),(2,.ref 0 0),(5,(zg x0))] 75 0,[.cells 26 (Ty.enc .sConfig c)],GL,0,[],zN⟩) | .l4 x0 x1 x2 x3 x4=>(4,⟨mkE [(1,.sl .sFeed qi),(2,.ref 0 0),(5,(zg x0)),(6,.ref 1 0),(7,(zg x1))] 75 0,[.cells 26 (Ty.enc .sConfig c),.cells 85 [(zg x2),(zg x3),.sl (.i .u32) x4]],GL,0,[],zN⟩)
def zop(c:za)(qi:(List z7)):L91->Tree L91 R91 | .l0 x0 =>let y1:=zA qi x0.toNat;let y2:=y1.qk;let y3:=(y1.qk:Int);.c (decide (x0<qi.length)) (.g (zO x0 qi.length) <| .c (decide (y3<0)) (.r false) (.c (decide (y3>=c.qq.length)) (.r false) (.c (decide ((y1.qu:Int)<0)) (.r false) (.c (decide ((y1.qu:Int)>=1073741824)) (.r false) (.g (zO y2 c.qq.length) <| .c (decide (((y1.qx).length:Int)>(zb c.qq (y2.toNat)).qE)) (.r false) (.j (.l4 x0 0 y2 (y1.qu) (y1.qx)))))))) (.r true) | .l4 x0 x1 x2 x3 x4 =>let y1:=i64.wrap (x1+1);let y2:=zA qi x1.toNat;let y3:=zO x1 qi.length;.c (decide (x1<x0)) (.g y3 <| .c ((y2.qk:Int)==x2) (.g y3 <| .c ((y2.qu:Int)==x3) (.r false) (.j (.l4 x0 y1 x2 x3 x4))) (.j (.l4 x0 y1 x2 x3 x4))) (.j (.l0 (i64.wrap (x0+1))))
def zFd(c:za)(qi:(List z7)):Tree L91 R91:=.j (.l0 0)
def zjp(c:za)(qi:(List z7)):L91->Option R91:=zal (zop c qi)
theorem zjq(c:za)(qi:(List z7))(l:L91):zjp c qi l=(zop c qi l).run (zjp c qi):=zE _ l
def zwp(c:za)(qi:(List z7)):Option R91:=(zFd c qi).run (zjp c qi)
theorem zOK(c:za)(qi:(List z7)):Oks 91 [.agg (Ty.enc .sConfig c),.sl .sFeed qi] [] (zwp c qi) to91:=zL K0 (H:=H91) zJ Tryz.func91 rfl (by kernel_rfl) (st91 c qi) (fun J l=>by cases l <;> kernel_rfl) (fun J=>by kernel_rfl)
abbrev zyZ:=Int × Int
def zP8(r:zyZ):Ans:=⟨.tup [(zg r.1),(zg r.2)],[]⟩
inductive zwT where | l0 (x0:Int) (x1:Int) (x2:Int) | l4 (x0:Int) (x1:Int) (x2:Int) (x3:Int) | l25 (x0:Int) (x1:Int) (x2:Int) (x3:Int) (x4:Int) (x5:Bool) | l17 (x0:Int) (x1:Int) (x2:Int) (x3:Int)
def H138:zab:=htt [8,12] [(0,⟨fgt [1,2,6,7,8] 61 0,[]⟩),(4,⟨fgt [1,2,6,7,8,9] 61 0,[]⟩),(17,⟨fgt [1,2,6,7,8,9] 61 0,[]⟩),(25,⟨fgt [1,2,6,7,8,9,10] 61 0,[]⟩)] []
def zPg(c:za)(h_1:Int):zwT->Nat × St | .l0 x0 x1 x2=>(0,⟨mkE [(1,(zg h_1)),(2,.ref 0 0),(6,(zg x0)),(7,(zg x1)),(8,(zg x2))] 61 0,[.cells 26 (Ty.enc .sConfig c)],GL,0,[],zN⟩) | .l4 x0 x1 x2 x3=>(4,⟨mkE [(1,(zg h_1)),(2,.ref 0 0),(6,(zg x0)),(7,(zg x1)),(8,(zg x2)),(9,(zg x3))] 61 0,[.cells 26 (Ty.enc .sConfig c)],GL,0,[],zN⟩) | .l25 x0 x1 x2 x3 x4 x5=>(25,⟨mkE [(1,(zg h_1)),(2,.ref 0 0),(6,(zg x0)),(7,(zg x1)),(8,(zg x2)),(9,(zg x3)),(10,.ref 1 0)] 61 0,[.cells 26 (Ty.enc .sConfig c),.cells 74 [(zg x4),(avB x5)]],GL,0,[],zN⟩) | .l17 x0 x1 x2 x3=>(17,⟨mkE [(1,(zg h_1)),(2,.ref 0 0),(6,(zg x0)),(7,(zg x1)),(8,(zg x2)),(9,(zg x3))] 61 0,[.cells 26 (Ty.enc .sConfig c)],GL,0,[],zN⟩)
def zf9(c:za)(h_1:Int):zwT->Tree zwT zyZ | .l0 x0 x1 x2=>.c (decide (x2<c.qq.length)) (.j (.l4 x0 x1 x2 0)) (.r (x0,x1)) | .l4 x0 x1 x2 x3 =>let y2:=(zb c.qq x2.toNat).qt;let y1:=zbe y2 x3.toNat;let y3:=y1.qb;let y4:=zO x2 c.qq.length;let y5:=y1.ql;.g y4 <| .c (decide (x3<y2.length)) (.g y4 <| .g (zO x3 y2.length) <| .c ((y1.ql:Int)==h_1) (.c y3 (.j (.l25 (i64.wrap (x0+1)) x1 x2 x3 y5 y3)) (.j (.l25 x0 x1 x2 x3 y5 y3))) (.j (.l25 x0 x1 x2 x3 y5 y3))) (.j (.l0 x0 x1 (i64.wrap (x2+1)))) | .l25 x0 x1 x2 x3 x4 x5=>.c (x4==h_1) (.c (!x5) (.j (.l17 x0 (i64.wrap (x1+1)) x2 x3)) (.j (.l17 x0 x1 x2 x3))) (.j (.l17 x0 x1 x2 x3)) | .l17 x0 x1 x2 x3=>.j (.l4 x0 x1 x2 (i64.wrap (x3+1)))
def zHr(c:za)(h_1:Int):Tree zwT zyZ:=.j (.l0 0 0 0)
def zcG(c:za)(h_1:Int):zwT->Option zyZ:=zal (zf9 c h_1)
theorem zee(c:za)(h_1:Int)(l:zwT):zcG c h_1 l=(zf9 c h_1 l).run (zcG c h_1):=zE _ l
def zeC(c:za)(h_1:Int):Option zyZ:=(zHr c h_1).run (zcG c h_1)
theorem zIt(c:za)(h_1:Int):Oks 138 [.agg (Ty.enc .sConfig c),(zg h_1)] [] (zeC c h_1) zP8:=zL K0 (H:=H138) zJ Tryz.func138 rfl (by kernel_rfl) (zPg c h_1) (fun J l=>by cases l <;> kernel_rfl) (fun J=>by kernel_rfl)
abbrev zza:=Bool
def zQv(r:zza):Ans:=⟨(avB r),[]⟩
inductive zw5 where | l0 (x0:Int)
def H166:zab:=htt [] [(0,⟨fgt [0,24,25] 50 0,[]⟩)] []
def zPs(s_0:ByteArray):zw5->Nat × St | .l0 x0=>(0,⟨mkE [(0,.v (.string s_0)),(24,(zg s_0.size)),(25,(zg x0))] 50 0,[],GL,0,[],zN⟩)
def zqa(s_0:ByteArray):zw5->Tree zw5 zza | .l0 x0 =>let y1:=((zcB s_0 x0.toNat):Int);let y2:=i64.wrap (x0+1);let y3:=!(y1==45);.c (decide (x0<s_0.size)) (.g (zO x0 s_0.size) <| .c (decide (y1<97)) (.c (decide (y1<48)) (.c y3 (.r false) (.j (.l0 y2))) (.c (decide (y1>57)) (.c y3 (.r false) (.j (.l0 y2))) (.j (.l0 y2)))) (.c (decide (y1>122)) (.c (decide (y1<48)) (.c y3 (.r false) (.j (.l0 y2))) (.c (decide (y1>57)) (.c y3 (.r false) (.j (.l0 y2))) (.j (.l0 y2)))) (.j (.l0 y2)))) (.r true)
def zAf(s_0:ByteArray):Tree zw5 zza:=.c (decide ((s_0.size:Int)<1)) (.r false) (.c (decide ((s_0.size:Int)>16)) (.r false) (.g (zO 0 s_0.size) <| .c (decide (((zcB s_0 0):Int)<97)) (.r false) (.g (zO 0 s_0.size) <| .c (decide (((zcB s_0 0):Int)>122)) (.r false) (.j (.l0 0)))))
def zm4(s_0:ByteArray):zw5->Option zza:=zal (zqa s_0)
theorem zpk(s_0:ByteArray)(l:zw5):zm4 s_0 l=(zqa s_0 l).run (zm4 s_0):=zE _ l
def zre(s_0:ByteArray):Option zza:=(zAf s_0).run (zm4 s_0)
theorem zIV(s_0:ByteArray):Oks 166 [.v (.string s_0)] [] (zre s_0) zQv:=zL K0 (H:=H166) zJ Tryz.func166 rfl (by kernel_rfl) (zPs s_0) (fun J l=>by cases l <;> kernel_rfl) (fun J=>by kernel_rfl)
abbrev zzg:=(List Int) × Bool
def zQT(r:zzg):Ans:=⟨.tup [.own 0,(avB r.2)],[.arr 46 (.i .u32) r.1]⟩
inductive zxi where | l0 (x0:Int)
def H233:zab:=htt [] [(0,⟨fgt [6,7,30,31,32] 45 0,[]⟩)] [(.slot 0,.own 46 (.i .u32))]
def zPF(l_0:(List Int))(head:Int):zxi->Nat × St | .l0 x0=>(0,⟨mkE [(6,(zg (i64.wrap (zt l_0 ((i64.wrap (head-1)).toNat))))),(7,.sl (.i .u32) ((l_0.take (l_0.length:Int).toNat).drop head.toNat)),(30,.sl (.i .u32) ((((l_0.take (l_0.length:Int).toNat).drop head.toNat).take (((l_0.take (l_0.length:Int).toNat).drop head.toNat).length:Int).toNat).drop (i64.wrap (zt l_0 ((i64.wrap (head-1)).toNat))).toNat)),(31,(zg (((((l_0.take (l_0.length:Int).toNat).drop head.toNat).take (((l_0.take (l_0.length:Int).toNat).drop head.toNat).length:Int).toNat).drop (i64.wrap (zt l_0 ((i64.wrap (head-1)).toNat))).toNat).length))),(32,(zg x0))] 45 0,[],GL,0,[],zN⟩)
def zqf(l_0:(List Int))(head:Int):zxi->Tree zxi zzg | .l0 x0 =>let y1:=i64.wrap (zt l_0 ((i64.wrap (head-1)).toNat));let y2:=((l_0.take (l_0.length:Int).toNat).drop head.toNat);let y3:=((y2.take (y2.length:Int).toNat).drop y1.toNat);let y4:=(List.replicate y1.toNat (0:Int));.c (decide (x0<y3.length)) (.g (zO x0 y3.length) <| .c (!((zt y3 x0.toNat:Int)==0)) (.r ([],false)) (.j (.l0 (i64.wrap (x0+1))))) (.g (decide ((y1:Int)=y1)&&decide (0<=y1)&&leB (y1.toNat*4) 140737488355328) <| .r ((zcH y4 0 (List.take (y4.length) (y2:List Int))),true))
def zAr(l_0:(List Int))(head:Int):Tree zxi zzg:=.g (zO (i64.wrap (head-1)) l_0.length) <| .g (inS head l_0.length l_0.length) <| .c (decide (((i64.wrap (zt l_0 ((i64.wrap (head-1)).toNat))):Int)<1)) (.r ([],false)) (.c (decide (((i64.wrap (zt l_0 ((i64.wrap (head-1)).toNat))):Int)>((l_0.take (l_0.length:Int).toNat).drop head.toNat).length)) (.r ([],false)) (.g (inS (i64.wrap (zt l_0 ((i64.wrap (head-1)).toNat))) (((l_0.take (l_0.length:Int).toNat).drop head.toNat).length) ((l_0.take (l_0.length:Int).toNat).drop head.toNat).length) <| .j (.l0 0)))
def zqX(l_0:(List Int))(head:Int):zxi->Option zzg:=zal (zqf l_0 head)
theorem zpp(l_0:(List Int))(head:Int)(l:zxi):zqX l_0 head l=(zqf l_0 head l).run (zqX l_0 head):=zE _ l
def znz(l_0:(List Int))(head:Int):Option zzg:=(zAr l_0 head).run (zqX l_0 head)
theorem zJE(l_0:(List Int))(head:Int):Oks 233 [.sl (.i .u32) l_0,(zg head)] [] (znz l_0 head) zQT:=zL K0 (H:=H233) zJ Tryz.func233 rfl (by kernel_rfl) (zPF l_0 head) (fun J l=>by cases l <;> kernel_rfl) (fun J=>by kernel_rfl)
abbrev R73:=Int
def to73(r:R73):Ans:=⟨(zg r),[]⟩
inductive L73 where | l0 (x0:Int)
def H73:zab:=htt [] [(0,⟨fgt [1,2,3,7] 46 0,[]⟩)] []
def st73(c:za)(p:Int)(at_2:Int):L73->Nat × St | .l0 x0=>(0,⟨mkE [(1,(zg p)),(2,(zg at_2)),(3,.ref 0 0),(7,(zg x0))] 46 0,[.cells 26 (Ty.enc .sConfig c)],GL,0,[],zN⟩)
def zvg(c:za)(p:Int)(at_2:Int):L73->Tree L73 R73 | .l0 x0 =>let y1:=(zb c.qq p.toNat).qe;let y2:=zi y1 x0.toNat;let y3:=((bop .quo .i64 at_2 16):Int);let y4:=zO p c.qq.length;let y5:=i64.wrap (x0+1);.g y4 <| .c (decide (x0<y1.length)) (.g y4 <| .g (zO x0 y1.length) <| .c (decide (y3>=y2.frame)) (.c (decide (y3<(i64.wrap (y2.frame+y2.qc)))) (.r (y2.qv)) (.j (.l0 y5))) (.j (.l0 y5))) (.r 0)
def zE8(c:za)(p:Int)(at_2:Int):Tree L73 R73:=.j (.l0 0)
def zv7(c:za)(p:Int)(at_2:Int):L73->Option R73:=zal (zvg c p at_2)
theorem zs5(c:za)(p:Int)(at_2:Int)(l:L73):zv7 c p at_2 l=(zvg c p at_2 l).run (zv7 c p at_2):=zE _ l
def zwk(c:za)(p:Int)(at_2:Int):Option R73:=(zE8 c p at_2).run (zv7 c p at_2)
theorem zOs(c:za)(p:Int)(at_2:Int):Oks 73 [.agg (Ty.enc .sConfig c),(zg p),(zg at_2)] [] (zwk c p at_2) to73:=zL K0 (H:=H73) zJ Tryz.func73 rfl (by kernel_rfl) (st73 c p at_2) (fun J l=>by cases l <;> kernel_rfl) (fun J=>by kernel_rfl)
abbrev zy0:=Bool
def zP9(r:zy0):Ans:=⟨(avB r),[]⟩
inductive zwU where | l0 (x0:Int) | l4 (x0:Int) (x1:Int)
def H139:zab:=htt [] [(0,⟨fgt [1,2,3,7] 39 0,[]⟩),(4,⟨fgt [1,2,3,7,8] 39 0,[]⟩)] []
def zPh(c:za)(core:Int)(p:Int):zwU->Nat × St | .l0 x0=>(0,⟨mkE [(1,(zg core)),(2,(zg p)),(3,.ref 0 0),(7,(zg x0))] 39 0,[.cells 26 (Ty.enc .sConfig c)],GL,0,[],zN⟩) | .l4 x0 x1=>(4,⟨mkE [(1,(zg core)),(2,(zg p)),(3,.ref 0 0),(7,(zg x0)),(8,(zg x1))] 39 0,[.cells 26 (Ty.enc .sConfig c)],GL,0,[],zN⟩)
def zjL(c:za)(core:Int)(p:Int):zwU->Tree zwU zy0 | .l0 x0=>.c (decide (x0<core)) (.j (.l4 x0 0)) (.r false) | .l4 x0 x1 =>let y1:=zD c.qp x0.toNat;let y2:=i64.wrap (x1+1);let y3:=zO x0 c.qp.length;.g y3 <| .c (decide (x1<y1.length)) (.c (!((p:Int)==(-1))) (.g y3 <| .g (zO x1 y1.length) <| .c (((zbC y1 x1.toNat).qk:Int)==p) (.r true) (.j (.l4 x0 y2))) (.j (.l4 x0 y2))) (.j (.l0 (i64.wrap (x0+1))))
def zHs(c:za)(core:Int)(p:Int):Tree zwU zy0:=.j (.l0 0)
def zfQ(c:za)(core:Int)(p:Int):zwU->Option zy0:=zal (zjL c core p)
theorem zhm(c:za)(core:Int)(p:Int)(l:zwU):zfQ c core p l=(zjL c core p l).run (zfQ c core p):=zE _ l
def zq9(c:za)(core:Int)(p:Int):Option zy0:=(zHs c core p).run (zfQ c core p)
theorem zIu(c:za)(core:Int)(p:Int):Oks 139 [.agg (Ty.enc .sConfig c),(zg core),(zg p)] [] (zq9 c core p) zP9:=zL K0 (H:=H139) zJ Tryz.func139 rfl (by kernel_rfl) (zPh c core p) (fun J l=>by cases l <;> kernel_rfl) (fun J=>by kernel_rfl)
abbrev zy8:=Bool
def zQo(r:zy8):Ans:=⟨(avB r),[]⟩
inductive zw2 where | l0 (x0:Int) | l4 (x0:Int) (x1:List zan) (x2:Int) (x3:Int)
def H156:zab:=htt [] [(0,⟨fgt [2,14,15,16] 36 0,[]⟩),(4,⟨fgt [2,14,15,16,20,21,22] 36 0,[]⟩)] []
def zPp(c:za)(k:Int)(p:Int):zw2->Nat × St | .l0 x0=>(0,⟨mkE [(2,(zg p)),(14,.sl (.sl .sWindow) ((c.qp.take k.toNat).drop 0)),(15,(zg (((c.qp.take k.toNat).drop 0).length))),(16,(zg x0))] 36 0,[],GL,0,[],zN⟩) | .l4 x0 x1 x2 x3=>(4,⟨mkE [(2,(zg p)),(14,.sl (.sl .sWindow) ((c.qp.take k.toNat).drop 0)),(15,(zg (((c.qp.take k.toNat).drop 0).length))),(16,(zg x0)),(20,.sl .sWindow x1),(21,(zg x2)),(22,(zg x3))] 36 0,[],GL,0,[],zN⟩)
def zjM(c:za)(k:Int)(p:Int):zw2->Tree zw2 zy8 | .l0 x0 =>let y1:=(c.qp.take k.toNat).drop 0;let y2:=zD y1 x0.toNat;.c (decide (x0<y1.length)) (.g (zO x0 y1.length) <| .j (.l4 x0 y2 (y2.length) 0)) (.r false) | .l4 x0 x1 x2 x3 =>let y1:=i64.wrap (x3+1);.c (decide (x3<x2)) (.g (zO x3 x1.length) <| .c (decide ((p:Int)>=0)) (.c (((zbC x1 x3.toNat).qk:Int)==p) (.r true) (.j (.l4 x0 x1 x2 y1))) (.j (.l4 x0 x1 x2 y1))) (.j (.l0 (i64.wrap (x0+1))))
def zAc(c:za)(k:Int)(p:Int):Tree zw2 zy8:=.g (inS 0 k c.qp.length) <| .j (.l0 0)
def zgG(c:za)(k:Int)(p:Int):zw2->Option zy8:=zal (zjM c k p)
theorem zhn(c:za)(k:Int)(p:Int)(l:zw2):zgG c k p l=(zjM c k p l).run (zgG c k p):=zE _ l
def zno(c:za)(k:Int)(p:Int):Option zy8:=(zAc c k p).run (zgG c k p)
theorem zIL(c:za)(k:Int)(p:Int):Oks 156 [.agg (Ty.enc .sConfig c),(zg k),(zg p)] [] (zno c k p) zQo:=zL K0 (H:=H156) zJ Tryz.func156 rfl (by kernel_rfl) (zPp c k p) (fun J l=>by cases l <;> kernel_rfl) (fun J=>by kernel_rfl)
abbrev R43:=Int
def to43(r:R43):Ans:=⟨(zg r),[]⟩
def zfu(m:(Option ze))(at_1:Int)(n_2:Int):Option R43:=Tree.run0 <|
 .c m.isNone
 (.r 3)
 (.c (decide ((at_1:Int)<0))
 (.r 51)
 (.c (decide ((n_2:Int)<0))
 (.r 51)
 (.g m.isSome <|
 .c (decide ((at_1:Int)>((m.getD default).qx).length))
 (.r 51)
 (.g m.isSome <|
 .c (decide ((n_2:Int)>(i64.wrap (((m.getD default).qx).length-at_1))))
 (.r 51)
 (.r 0)))))
theorem zNY(m:(Option ze))(at_1:Int)(n_2:Int):Oks 43 [.op .sMemMemory m,(zg at_1),(zg n_2)] [] (zfu m at_1 n_2) to43:=zM K0 (H:=H0) zJ Tryz.func43 rfl (by kernel_rfl) (fun J=>by kernel_rfl)
abbrev R105:=Int × Int
def zPH(r:R105):Ans:=⟨.tup [(zg r.1),(zu r.2)],[]⟩
def zqY(d:(Option zR))(p:Int)(qu:Int)(index:Int):Option R105:=Tree.run0 <|
 .c d.isNone
 (.r (0,0))
 (.g d.isSome <|
 .b (zes (fun x:zQ=>some (((p:Int)==x.qk)&&(((qu:Int)==x.qu)&&true))) ((d.getD default).qi)) fun r1=>
 .c (decide (((IntKind.u64.wrap index):Int)>=(IntKind.u64.wrap ((r1.getD []).length))))
 (.r (7,0))
 (.g (zO index (r1.getD []).length) <|
 .r (0,zt (r1.getD []) index.toNat)))
theorem zH9(d:(Option zR))(p:Int)(qu:Int)(index:Int):Oks 105 [.op .sDeviceDevices d,(zg p),(zg qu),(zu index)] [] (zqY d p qu index) zPH:=zM K0 (H:=H0) zJ Tryz.func105 rfl (by kernel_rfl) (fun J=>by kernel_rfl)
abbrev R225:=Int
def zQM(r:R225):Ans:=⟨(zg r),[]⟩
def zgE(m:(Option ze))(qx:Int):R225:=Tree.val (L:=Empty) <|
 .c m.isNone
 (.r 3)
 (.c (decide ((qx:Int)<1))
 (.r 1)
 (.c (decide ((qx:Int)>16))
 (.r 1)
 (.r 0)))
theorem zJw(m:(Option ze))(qx:Int):Oks 225 [.op .sMemMemory m,(zg qx)] [] (some (zgE m qx)) zQM:=zbx K0 (H:=H0) zJ Tryz.func225 rfl (by kernel_rfl) rfl (fun J=>by kernel_rfl)
abbrev R33:=Int
def to33(r:R33):Ans:=⟨(zg r),[]⟩
def zdJ(m:(Option ze)):Option R33:=Tree.run0 <|
 .c m.isNone
 (.r 0)
 (.g m.isSome <|
 .r (bop .quo .i64 (((m.getD default).qx).length) 16))
theorem zNQ(m:(Option ze)):Oks 33 [.op .sMemMemory m] [] (zdJ m) to33:=zM K0 (H:=H0) zJ Tryz.func33 rfl (by kernel_rfl) (fun J=>by kernel_rfl)
abbrev R94:=Int
def to94(r:R94):Ans:=⟨(zu r),[]⟩
def zyg(frame:Int)(qv:Int):R94:=(bop .or .u32 (bop .or .u32 2147483648 (bop .shl .u32 (u32.wrap frame) 3)) (u32.wrap qv))
theorem zON(frame:Int)(qv:Int):Oks 94 [(zg frame),(zg qv)] [] (some (zyg frame qv)) to94:=zbj K0 (H:=H0) zJ Tryz.func94 rfl (by kernel_rfl) (fun J=>by kernel_rfl)
abbrev R220:=Int
def zQJ(r:R220):Ans:=⟨(zu r),[]⟩
def zsI(b:Bool):R220:=Tree.val (L:=Empty) <|
 .c b
 (.r 1)
 (.r 0)
theorem zJr(b:Bool):Oks 220 [(avB b)] [] (some (zsI b)) zQJ:=zbx K0 (H:=H0) zJ Tryz.func220 rfl (by kernel_rfl) rfl (fun J=>by kernel_rfl)
abbrev R178:=Int
def zQE(r:R178):Ans:=⟨(zg r),[]⟩
def zmW(f:zy):R178:=(i64.wrap (1+f.qx))
theorem zI7(f:zy):Oks 178 [.agg [(zg f.qx),(zg f.qy)]] [] (some (zmW f)) zQE:=zbj K0 (H:=H0) zJ Tryz.func178 rfl (by kernel_rfl) (fun J=>by kernel_rfl)
abbrev R84:=za0
def to84(r:R84):Ans:=⟨.agg [(zg r.first),(zg r.second)],[]⟩
def zJW:R84:=(⟨(-1),(-1)⟩:za0)
theorem zOD:Oks 84 [] [] (some (zJW)) to84:=zbj K0 (H:=H0) zJ Tryz.func84 rfl (by kernel_rfl) (fun J=>by kernel_rfl)
def k10:Fk 10:=aF (aL (.i .i64) fun a0=>aL (.i .i64) fun a1=>aE (zNw a0 a1))
def k13:Fk 13:=aF (aS .sBulkheadlaw25Op fun a0=>aE (zNz a0))
def k20:Fk 20:=aF (aE (zND))
def k23:Fk 23:=aF (aS .sConfig fun a0=>aE (zNG a0))
def k24:Fk 24:=aF (aS .sConfig fun a0=>aE (zNH a0))
def k25:Fk 25:=aF (aL (.sl .sFeed) fun a0=>aE (zNI a0))
def g29(args:List AV)(hp:List Blk):Option Rsp:=
 match args,hp with
 | [.own 0,a1],[.row 85 .sFeed [(2,46)] [] y0]=>(rdL (.sl .sFeed) a1).bind fun b1=>some ⟨R29,(zlh b1 y0),to29,default⟩
 | _,_=>none
def k29:Fk 29:=⟨g29,fun args hp y h x hx=>by
 unfold g29 at h
 split at h
 . simp only[Option.bind_eq_some_iff]at h
   obtain ⟨b1,h1,h⟩:=h
   cases h;exact(zNM b1 _).ats (.cons (fun _ _ _ _ h=>h) (.cons (z9 h1) .nil)) hx
 . cases h⟩
def k32:Fk 32:=aF (aL (.sl (.i .u32)) fun a0=>aE (zNP a0))
def k33:Fk 33:=aF (aL (.p .sMemMemory) fun a0=>aE (zNQ a0))
def k35:Fk 35:=aF (aL (.sl (.i .u32)) fun a0=>aE (zNS a0))
def k36:Fk 36:=aF (aL (.p .sCallsCalls) fun a0=>aL (.i .i64) fun a1=>aL (.i .i64) fun a2=>aE (zNT a0 a1 a2))
def k43:Fk 43:=aF (aL (.p .sMemMemory) fun a0=>aL (.i .i64) fun a1=>aL (.i .i64) fun a2=>aE (zNY a0 a1 a2))
def k55:Fk 55:=aF (aS .sPartition fun a0=>aS .sPartition fun a1=>aE (zOa a0 a1))
def k61:Fk 61:=aF (aL (.p .sDuctDucts) fun a0=>aL (.i .i64) fun a1=>aE (zOg a0 a1))
def zDK:Fk 61:=aF (aL (.p .sDuctDucts) fun a0=>aL (.i .i64) fun a1=>aE (zx0 a0 a1))
def g68(args:List AV)(hp:List Blk):Option Rsp:=
 match args,hp with
 | [.ref 0 0],[.cells 116 [.op .sCallsCalls y0,.ref 1 0,.v (.int .i64 y1),.v (.int .i64 y2),.v (.int .u32 y3),.v (.int .u32 y4),.v (.int .u32 y5),.v (.int .u32 y6),.v (.int .u32 y7),.v (.int .u32 y8),.v (.int .u32 y9),.v (.int .u32 y10),.v (.int .u32 y11),.v (.int .u32 y12),.v (.int .u32 y13),.v (.int .u32 y14),.v (.int .u32 y15),.v (.int .u32 y16),.v (.int .u32 y17),.v (.int .u32 y18),.v (.int .u32 y19)],.cells 112 [.own 2],.arr 46 (.i .u32) y20]=>some ⟨R68,(some (zfl y0 y1 y2 (⟨(⟨y3,y4,y5,y6,y7,y8,y9,y10,y11,y12,y13,y14,y15,y16,y17,y18⟩:z6),y19⟩:zB) y20)),to68,default⟩
 | _,_=>none
def k68:Fk 68:=⟨g68,fun args hp y h x hx=>by
 unfold g68 at h
 split at h
 . cases h;exact(zOn _ _ _ _ _).ats (.cons (fun _ _ _ _ h=>h) .nil) hx
 . cases h⟩
def k72:Fk 72:=aF (aS .sConfig fun a0=>aL (.i .i64) fun a1=>aL (.i .i64) fun a2=>aL .b fun a3=>aE (zOr a0 a1 a2 a3))
def k73:Fk 73:=aF (aS .sConfig fun a0=>aL (.i .i64) fun a1=>aL (.i .i64) fun a2=>aE (zOs a0 a1 a2))
def k74:Fk 74:=aF (aL (.p .sDuctDucts) fun a0=>aL (.i .i64) fun a1=>aL (.i .i64) fun a2=>aE (zOt a0 a1 a2))
def k78:Fk 78:=aF (aS .sConfig fun a0=>aL (.i .i64) fun a1=>aE (zOx a0 a1))
def k79:Fk 79:=aF (aS .sChannel fun a0=>aE (zOy a0))
def k81:Fk 81:=aF (aS .sPartition fun a0=>aE (zOA a0))
def k84:Fk 84:=aF (aE (zOD))
def k87:Fk 87:=aF (aL (.i .i64) fun a0=>aE (zOG a0))
def k90:Fk 90:=aF (aS .sConfig fun a0=>aL (.i .i64) fun a1=>aE (zOJ a0 a1))
def k91:Fk 91:=aF (aS .sConfig fun a0=>aL (.sl .sFeed) fun a1=>aE (zOK a0 a1))
def k93:Fk 93:=aF (aS .sPartition fun a0=>aL (.i .i64) fun a1=>aE (zOM a0 a1))
def k94:Fk 94:=aF (aL (.i .i64) fun a0=>aL (.i .i64) fun a1=>aE (zON a0 a1))
def k95:Fk 95:=aF (aS .sPartition fun a0=>aL (.i .i64) fun a1=>aE (zOO a0 a1))
def k96:Fk 96:=aF (aL (.i .i64) fun a0=>aE (zOP a0))
def k105:Fk 105:=aF (aL (.p .sDeviceDevices) fun a0=>aL (.i .i64) fun a1=>aL (.i .i64) fun a2=>aL (.i .u32) fun a3=>aE (zH9 a0 a1 a2 a3))
def k108:Fk 108:=aF (aS .sPartition fun a0=>aL (.i .i64) fun a1=>aE (zIc a0 a1))
def k110:Fk 110:=aF (aS .sPartition fun a0=>aL (.i .i64) fun a1=>aL .b fun a2=>aE (zIe a0 a1 a2))
def k112:Fk 112:=aF (aS .sPartition fun a0=>aL (.i .i64) fun a1=>aE (zIg a0 a1))
def k114:Fk 114:=aF (aL .b fun a0=>aL (.i .i64) fun a1=>aS .sWhere fun a2=>aE (zIh a0 a1 a2))
def k115:Fk 115:=aF (aL (.i .i64) fun a0=>aL (.i .i64) fun a1=>aL (.i .i64) fun a2=>aE (zIi a0 a1 a2))
def k128:Fk 128:=aF (aS .sConfig fun a0=>aS .sPartition fun a1=>aE (zIn a0 a1))
def g129(args:List AV)(hp:List Blk):Option Rsp:=
 match args,hp with
 | [a0,.ref 0 0],[.cells 3 [.v (.int .i64 y0)]]=>(rdL (.i .i64) a0).bind fun b0=>some ⟨zGr,(some (zb8 b0 y0)),zFJ,default⟩
 | _,_=>none
def k129:Fk 129:=⟨g129,fun args hp y h x hx=>by
 unfold g129 at h
 split at h
 . simp only[Option.bind_eq_some_iff]at h
   obtain ⟨b0,h0,h⟩:=h
   cases h;exact(zIo b0 _).ats (.cons (z9 h0) (.cons (fun _ _ _ _ h=>h) .nil)) hx
 . cases h⟩
def k134:Fk 134:=aF (aL (.i .i64) fun a0=>aL (.i .i64) fun a1=>aL (.i .i64) fun a2=>aE (zIp a0 a1 a2))
def k138:Fk 138:=aF (aS .sConfig fun a0=>aL (.i .i64) fun a1=>aE (zIt a0 a1))
def k139:Fk 139:=aF (aS .sConfig fun a0=>aL (.i .i64) fun a1=>aL (.i .i64) fun a2=>aE (zIu a0 a1 a2))
def k140:Fk 140:=aF (aL (.i .i64) fun a0=>aL (.i .i64) fun a1=>aL (.i .i64) fun a2=>aL (.i .i64) fun a3=>aE (zIv a0 a1 a2 a3))
def k142:Fk 142:=aF (aS .sFeed fun a0=>aS .sFeed fun a1=>aE (zIx a0 a1))
def k145:Fk 145:=aF (aL (.p .sDuctDucts) fun a0=>aL (.i .i64) fun a1=>aL (.i .i64) fun a2=>aL (.i .i64) fun a3=>aE (zIA a0 a1 a2 a3))
def k148:Fk 148:=aF (aS .sChannel fun a0=>aE (zID a0))
def k149:Fk 149:=aF (aL (.sl .sAdmitFound) fun a0=>aE (zIE a0))
def k151:Fk 151:=aF (aL (.i .i64) fun a0=>aE (zIG a0))
def k154:Fk 154:=aF (aL (.i .i64) fun a0=>aL (.i .i64) fun a1=>aE (zIJ a0 a1))
def k155:Fk 155:=aF (aS .sConfig fun a0=>aL (.i .i64) fun a1=>aE (zIK a0 a1))
def k156:Fk 156:=aF (aS .sConfig fun a0=>aL (.i .i64) fun a1=>aL (.i .i64) fun a2=>aE (zIL a0 a1 a2))
def k157:Fk 157:=aF (aL (.i .i64) fun a0=>aL (.i .i64) fun a1=>aL (.i .i64) fun a2=>aL (.i .i64) fun a3=>aE (zIM a0 a1 a2 a3))
def k159:Fk 159:=aF (aL .s fun a0=>aE (zIO a0))
def k166:Fk 166:=aF (aL .s fun a0=>aE (zIV a0))
def k171:Fk 171:=aF (aL (.p .sMemMemory) fun a0=>aS .sQueueForm fun a1=>aE (zI0 a0 a1))
def k175:Fk 175:=aF (aL (.i .u32) fun a0=>aE (zI4 a0))
def k178:Fk 178:=aF (aS .sQueueForm fun a0=>aE (zI7 a0))
def k180:Fk 180:=aF (aL (.sl (.i .u32)) fun a0=>aE (zI9 a0))
def k220:Fk 220:=aF (aL .b fun a0=>aE (zJr a0))
def k225:Fk 225:=aF (aL (.p .sMemMemory) fun a0=>aL (.i .i64) fun a1=>aE (zJw a0 a1))
def k231:Fk 231:=aF (aL (.i .i64) fun a0=>aL (.i .i64) fun a1=>aL (.sl (.i .i64)) fun a2=>aE (zJC a0 a1 a2))
def k232:Fk 232:=aF (aL (.sl (.i .u32)) fun a0=>aE (zJD a0))
def k233:Fk 233:=aF (aL (.sl (.i .u32)) fun a0=>aL (.i .i64) fun a1=>aE (zJE a0 a1))
def GC0:GK:=zDz [⟨61,zDK⟩] (zhZ [⟨10,k10⟩,⟨13,k13⟩,⟨20,k20⟩,⟨23,k23⟩,⟨24,k24⟩,⟨25,k25⟩,⟨29,k29⟩,⟨32,k32⟩,⟨33,k33⟩,⟨35,k35⟩,⟨36,k36⟩,⟨43,k43⟩,⟨55,k55⟩,⟨61,k61⟩,⟨68,k68⟩,⟨72,k72⟩,⟨73,k73⟩,⟨74,k74⟩,⟨78,k78⟩,⟨79,k79⟩,⟨81,k81⟩,⟨84,k84⟩,⟨87,k87⟩,⟨90,k90⟩,⟨91,k91⟩,⟨93,k93⟩,⟨94,k94⟩,⟨95,k95⟩,⟨96,k96⟩,⟨105,k105⟩,⟨108,k108⟩,⟨110,k110⟩,⟨112,k112⟩,⟨114,k114⟩,⟨115,k115⟩,⟨128,k128⟩,⟨129,k129⟩,⟨134,k134⟩,⟨138,k138⟩,⟨139,k139⟩,⟨140,k140⟩,⟨142,k142⟩,⟨145,k145⟩,⟨148,k148⟩,⟨149,k149⟩,⟨151,k151⟩,⟨154,k154⟩,⟨155,k155⟩,⟨156,k156⟩,⟨157,k157⟩,⟨159,k159⟩,⟨166,k166⟩,⟨171,k171⟩,⟨175,k175⟩,⟨178,k178⟩,⟨180,k180⟩,⟨220,k220⟩,⟨225,k225⟩,⟨231,k231⟩,⟨232,k232⟩,⟨233,k233⟩] K0)
abbrev R28:=Bool × (List (List zan)) × (List zf) × (List zI)
def to28(r:R28):Ans:=⟨(avB r.1),[.row 136 (.sl .sWindow) [(0,135)] [] r.2.1,.row 72 .sPartition [(6,138),(7,74)] [] r.2.2.1,.arr 76 .sChannel r.2.2.2]⟩
inductive L28 where | l0 (x0:Bool) (x1:Int) (x2:List (List zan)) | l4 (x0:Bool) (x1:Int) (x2:Int) (x3:List (List zan)) | l8 (x0:Bool) (x1:Int) (x2:List (List zan)) (x3:List zf) | l12 (v0:R55) (x0:Int) (x1:Int) (x2:List (List zan)) (x3:List zf) | l20 (x0:Bool) (x1:Int) (x2:List (List zan)) (x3:List zf) (x4:List zI) | l16 (v0:R55) (x0:Int) (x1:Int) (x2:List (List zan)) (x3:List zf)
def H28:zab:=⟨fun n=>[].any (Nat.beq n),zfi [(0,⟨fgt [2,3,5,6] 204 0,[]⟩),(4,⟨fgt [2,3,5,6,7] 204 0,[(.box 2 4,.home)]⟩),(8,⟨fgt [2,3,5,8] 204 0,[]⟩),(12,⟨fgt [2,3,5,8,9] 204 0,[(.box 2 5,.home)]⟩),(16,⟨fgt [2,3,5,8,10] 204 0,[(.box 2 5,.home)]⟩),(20,⟨fgt [2,3,5,11] 204 0,[]⟩)],[],G0,(fun e=>match e with | 72=>[(6,138),(7,74)] | 136=>[(0,135)] | _=>[])⟩
def st28(qr:Int)(major:Int)(kern:Int)(room:Int)(c:za)(rowC:List (List zan))(rowP:List zf)(rowH:List zI):L28->Nat × St | .l0 x0 x1 x2=>(0,⟨mkE [(2,.ref 3 0),(3,.ref 4 0),(5,(avB x0)),(6,(zg x1))] 204 0,[.row 136 (.sl .sWindow) [(0,135)] [] x2,.row 72 .sPartition [(6,138),(7,74)] [] rowP,.arr 76 .sChannel rowH,.cells 26 [(zg qr),(zg major),(zg kern),(zg room),.own 0,.own 1,.own 2],.cells 26 (Ty.enc .sConfig c)],GL,3,[],(fun e=>match e with | 72=>[(6,138),(7,74)] | 136=>[(0,135)] | _=>[])⟩) | .l4 x0 x1 x2 x3=>(4,⟨mkE [(2,.ref 3 0),(3,.ref 4 0),(5,(avB x0)),(6,(zg x1)),(7,(zg x2))] 204 0,[.row 136 (.sl .sWindow) [(0,135)] [] x3,.row 72 .sPartition [(6,138),(7,74)] [] rowP,.arr 76 .sChannel rowH,.cells 26 [(zg qr),(zg major),(zg kern),(zg room),.own 0,.own 1,.own 2],.cells 26 (Ty.enc .sConfig c)],GL,3,[],(fun e=>match e with | 72=>[(6,138),(7,74)] | 136=>[(0,135)] | _=>[])⟩) | .l8 x0 x1 x2 x3=>(8,⟨mkE [(2,.ref 3 0),(3,.ref 4 0),(5,(avB x0)),(8,(zg x1))] 204 0,[.row 136 (.sl .sWindow) [(0,135)] [] x2,.row 72 .sPartition [(6,138),(7,74)] [] x3,.arr 76 .sChannel rowH,.cells 26 [(zg qr),(zg major),(zg kern),(zg room),.own 0,.own 1,.own 2],.cells 26 (Ty.enc .sConfig c)],GL,3,[],(fun e=>match e with | 72=>[(6,138),(7,74)] | 136=>[(0,135)] | _=>[])⟩) | .l12 v0 x0 x1 x2 x3=>(12,⟨mkE [(2,.ref 3 0),(3,.ref 4 0),(5,(avB v0)),(8,(zg x0)),(9,(zg x1))] 204 0,[.row 136 (.sl .sWindow) [(0,135)] [] x2,.row 72 .sPartition [(6,138),(7,74)] [] x3,.arr 76 .sChannel rowH,.cells 26 [(zg qr),(zg major),(zg kern),(zg room),.own 0,.own 1,.own 2],.cells 26 (Ty.enc .sConfig c)],GL,3,[],(fun e=>match e with | 72=>[(6,138),(7,74)] | 136=>[(0,135)] | _=>[])⟩) | .l20 x0 x1 x2 x3 x4=>(20,⟨mkE [(2,.ref 3 0),(3,.ref 4 0),(5,(avB x0)),(11,(zg x1))] 204 0,[.row 136 (.sl .sWindow) [(0,135)] [] x2,.row 72 .sPartition [(6,138),(7,74)] [] x3,.arr 76 .sChannel x4,.cells 26 [(zg qr),(zg major),(zg kern),(zg room),.own 0,.own 1,.own 2],.cells 26 (Ty.enc .sConfig c)],GL,3,[],(fun e=>match e with | 72=>[(6,138),(7,74)] | 136=>[(0,135)] | _=>[])⟩) | .l16 v0 x0 x1 x2 x3=>(16,⟨mkE [(2,.ref 3 0),(3,.ref 4 0),(5,(avB v0)),(8,(zg x0)),(10,(zg x1))] 204 0,[.row 136 (.sl .sWindow) [(0,135)] [] x2,.row 72 .sPartition [(6,138),(7,74)] [] x3,.arr 76 .sChannel rowH,.cells 26 [(zg qr),(zg major),(zg kern),(zg room),.own 0,.own 1,.own 2],.cells 26 (Ty.enc .sConfig c)],GL,3,[],(fun e=>match e with | 72=>[(6,138),(7,74)] | 136=>[(0,135)] | _=>[])⟩)
def zeJ(qr:Int)(major:Int)(kern:Int)(room:Int)(c:za)(rowC:List (List zan))(rowP:List zf)(rowH:List zI):L28->Tree L28 R28 | .l0 x0 x1 x2 =>let y1:=zD x2 x1.toNat;.c x0 (.c (decide (x1<c.qp.length)) (.g (zO x1 x2.length) <| .g (zO x1 c.qp.length) <| .j (.l4 ((y1.length:Int)==(zD c.qp x1.toNat).length) x1 0 (List.set x2 x1.toNat y1))) (.j (.l8 x0 0 x2 rowP))) (.j (.l8 x0 0 x2 rowP)) | .l4 x0 x1 x2 x3 =>let y1:=zD x3 x1.toNat;let y2:=zD c.qp x1.toNat;let y3:=List.set x3 x1.toNat y1;let y4:=zbC y1 x2.toNat;let y5:=zbC y2 x2.toNat;let y6:=i64.wrap (x1+1);let y7:=zO x1 c.qp.length;let y8:=zD y3 x1.toNat;.c x0 (.g y7 <| .c (decide (x2<y2.length)) (.g (zO x1 x3.length) <| .g (zO x2 y1.length) <| .g y7 <| .g (zO x2 y2.length) <| .g (zO x1 x3.length) <| .g (zO x2 y8.length) <| .j (.l4 (((y4.qk:Int)==(y5.qk))&&(((y4.qm:Int)==(y5.qm))&&(((y4.qQ:Int)==(y5.qQ))&&true))) x1 (i64.wrap (x2+1)) (List.set y3 x1.toNat (List.set y8 x2.toNat (⟨(-1),1,0⟩:zan))))) (.j (.l0 x0 y6 x3))) (.j (.l0 x0 y6 x3)) | .l8 x0 x1 x2 x3 =>let y2:=zb x3 x1.toNat;let y3:=List.set x3 x1.toNat y2;let y1:=zb y3 x1.toNat;.c x0 (.c (decide (x1<c.qq.length)) (.g (zO x1 x3.length) <| .g (zO x1 c.qq.length) <| .b (ztg y2 (zb c.qq x1.toNat)) fun r1=>.j (.l12 r1 x1 0 x2 (List.set y3 x1.toNat (⟨y1.name,y1.entry,y1.action,y1.qR,y1.qE,y1.qW,y2.qe,y1.qt⟩:zf)))) (.j (.l20 x0 0 x2 x3 rowH))) (.j (.l20 x0 0 x2 x3 rowH)) | .l12 v0 x0 x1 x2 x3 =>let y1:=zb x3 x0.toNat;.c v0 (.g (zO x0 c.qq.length) <| .c (decide (x1<((zb c.qq x0.toNat).qe).length)) (.g (zO x0 x3.length) <| .g (zO x1 (y1.qe).length) <| .j (.l12 v0 x0 (i64.wrap (x1+1)) x2 (List.set x3 x0.toNat (⟨y1.name,y1.entry,y1.action,y1.qR,y1.qE,y1.qW,(List.set (y1.qe) x1.toNat (⟨200,1,0,0⟩:Region)),y1.qt⟩:zf)))) (.j (.l16 v0 x0 0 x2 x3))) (.j (.l16 v0 x0 0 x2 x3)) | .l20 x0 x1 x2 x3 x4 =>let y1:=zw c.qw x1.toNat;let y2:=zw x4 x1.toNat;let y3:=zO x1 c.qw.length;.c x0 (.c (decide (x1<c.qw.length)) (.g (zO x1 x4.length) <| .g y3 <| .g y3 <| .g (zO x1 x4.length) <| .j (.l20 (((y2.kind:Int)==(y1.kind))&&(((y2.qx:Int)==(y1.qx))&&(((y2.qy:Int)==(y1.qy))&&true))) (i64.wrap (x1+1)) x2 x3 (List.set x4 x1.toNat (⟨(i64.wrap (3-y1.kind)),1,1⟩:zI)))) (.r (x0,x2,x3,x4))) (.r (x0,x2,x3,x4)) | .l16 v0 x0 x1 x2 x3 =>let y1:=zb x3 x0.toNat;let y2:=(List.set x3 x0.toNat (⟨(ByteArray.mk #[115,112,111,105,108,116]),0,0,0,0,0,[],[]⟩:zf));let y3:=zO x0 x3.length;let y4:=i64.wrap (x0+1);.c v0 (.g (zO x0 c.qq.length) <| .c (decide (x1<((zb c.qq x0.toNat).qt).length)) (.g y3 <| .g (zO x1 (y1.qt).length) <| .j (.l16 v0 x0 (i64.wrap (x1+1)) x2 (List.set x3 x0.toNat (⟨y1.name,y1.entry,y1.action,y1.qR,y1.qE,y1.qW,y1.qe,(List.set (y1.qt) x1.toNat (⟨77,false⟩:zb9))⟩:zf)))) (.g y3 <| .j (.l8 v0 y4 x2 y2))) (.g y3 <| .j (.l8 v0 y4 x2 y2))
def zEM(qr:Int)(major:Int)(kern:Int)(room:Int)(c:za)(rowC:List (List zan))(rowP:List zf)(rowH:List zI):Tree L28 R28:=.c ((rowC.length:Int)==c.qp.length) (.c ((rowP.length:Int)==c.qq.length) (.j (.l0 ((rowH.length:Int)==c.qw.length) 0 rowC)) (.j (.l0 false 0 rowC))) (.j (.l0 false 0 rowC))
def zcN(qr:Int)(major:Int)(kern:Int)(room:Int)(c:za)(rowC:List (List zan))(rowP:List zf)(rowH:List zI):L28->Option R28:=zal (zeJ qr major kern room c rowC rowP rowH)
theorem zbX(qr:Int)(major:Int)(kern:Int)(room:Int)(c:za)(rowC:List (List zan))(rowP:List zf)(rowH:List zI)(l:L28):zcN qr major kern room c rowC rowP rowH l=(zeJ qr major kern room c rowC rowP rowH l).run (zcN qr major kern room c rowC rowP rowH):=zE _ l
def zlg(qr:Int)(major:Int)(kern:Int)(room:Int)(c:za)(rowC:List (List zan))(rowP:List zf)(rowH:List zI):Option R28:=(zEM qr major kern room c rowC rowP rowH).run (zcN qr major kern room c rowC rowP rowH)
theorem zNL(qr:Int)(major:Int)(kern:Int)(room:Int)(c:za)(rowC:List (List zan))(rowP:List zf)(rowH:List zI):Oks 28 [.agg [(zg qr),(zg major),(zg kern),(zg room),.own 0,.own 1,.own 2],.agg (Ty.enc .sConfig c)] [.row 136 (.sl .sWindow) [(0,135)] [] rowC,.row 72 .sPartition [(6,138),(7,74)] [] rowP,.arr 76 .sChannel rowH] (zlg qr major kern room c rowC rowP rowH) to28:=zL GC0 (H:=H28) zJ Tryz.func28 rfl (by kernel_rfl) (st28 qr major kern room c rowC rowP rowH) (fun J l=>by cases l <;> kernel_rfl) (fun J=>by kernel_rfl)
abbrev R57:=(List Int)
def to57(r:R57):Ans:=⟨.tup [],[.arr 46 (.i .u32) r]⟩
inductive L57 where | l0 (x0:Int) (x1:Int) (x2:List Int) | l4 (x0:Int) (x1:Int) (x2:Bool) (x3:Int) (x4:List Int) | l9 (x0:Int) (x1:Int) (x2:List Int)
def H57:zab:=htt [4] [(0,⟨fgt [0,4,5,6,7] 62 0,[]⟩),(4,⟨fgt [0,4,5,6,7,8,9] 62 0,[]⟩),(9,⟨fgt [0,4,5,6,7] 62 0,[]⟩)] []
def st57(p:zf)(pl:zk)(m:List Int):L57->Nat × St | .l0 x0 x1 x2=>(0,⟨mkE [(0,.own 0),(4,.ref 1 0),(5,.ref 2 0),(6,(zg x0)),(7,(zg x1))] 62 0,[.arr 46 (.i .u32) x2,.cells 72 (Ty.enc .sPartition p),.cells 140 (Ty.enc .sPartitionPlace pl)],GL,1,[],zN⟩) | .l4 x0 x1 x2 x3 x4=>(4,⟨mkE [(0,.own 0),(4,.ref 1 0),(5,.ref 2 0),(6,(zg x0)),(7,(zg x1)),(8,(avB x2)),(9,(zg x3))] 62 0,[.arr 46 (.i .u32) x4,.cells 72 (Ty.enc .sPartition p),.cells 140 (Ty.enc .sPartitionPlace pl)],GL,1,[],zN⟩) | .l9 x0 x1 x2=>(9,⟨mkE [(0,.own 0),(4,.ref 1 0),(5,.ref 2 0),(6,(zg x0)),(7,(zg x1))] 62 0,[.arr 46 (.i .u32) x2,.cells 72 (Ty.enc .sPartition p),.cells 140 (Ty.enc .sPartitionPlace pl)],GL,1,[],zN⟩)
def zkK(p:zf)(pl:zk)(m:List Int):L57->Tree L57 R57 | .l0 x0 x1 x2=>.c (decide (x1<16)) (.j (.l4 x0 x1 false 0 x2)) (.r x2) | .l4 x0 x1 x2 x3 x4 =>let y1:=i64.wrap ((i64.wrap (zt pl.qs x0.toNat*16))+x3);let y2:=i64.wrap ((i64.wrap (pl.root*16))+x1);let y3:=i64.wrap ((i64.wrap (x1*16))+x3);let y4:=i64.wrap (x3+1);let y5:=zO x0 pl.qs.length;.c (decide (x3<16)) (.b (zpA p (i64.wrap (y3*16))) fun r1=>.c (decide ((r1:Int)<0)) (.j (.l4 x0 x1 x2 y4 x4)) (.g y5 <| .b (zwq p y3) fun r2=>.g (zO y1 x4.length) <| .j (.l4 x0 x1 true y4 (List.set x4 (y1.toNat) (zyg (bop .quo .i64 r1 16) r2))))) (.c x2 (.g y5 <| .g (zO y2 x4.length) <| .j (.l9 (i64.wrap (x0+1)) x1 (List.set x4 (y2.toNat) (zyg (zt pl.qs x0.toNat) 0)))) (.j (.l9 x0 x1 x4))) | .l9 x0 x1 x2=>.j (.l0 x0 (i64.wrap (x1+1)) x2)
def zE1(p:zf)(pl:zk)(m:List Int):Tree L57 R57:=.j (.l0 0 0 m)
def zjj(p:zf)(pl:zk)(m:List Int):L57->Option R57:=zal (zkK p pl m)
theorem zfq(p:zf)(pl:zk)(m:List Int)(l:L57):zjj p pl m l=(zkK p pl m l).run (zjj p pl m):=zE _ l
def zpw(p:zf)(pl:zk)(m:List Int):Option R57:=(zE1 p pl m).run (zjj p pl m)
theorem zOc(p:zf)(pl:zk)(m:List Int):Oks 57 [.own 0,.agg (Ty.enc .sPartition p),.agg (Ty.enc .sPartitionPlace pl)] [.arr 46 (.i .u32) m] (zpw p pl m) to57:=zL GC0 (H:=H57) zJ Tryz.func57 rfl (by kernel_rfl) (st57 p pl m) (fun J l=>by cases l <;> kernel_rfl) (fun J=>by kernel_rfl)
abbrev R169:=Bool
def zQx(r:R169):Ans:=⟨(avB r),[]⟩
def zrf(x:zX)(l_1:(List Int)):Option R169:=Tree.run0 <|
 .g (zO 0 l_1.length) <|
 .c (decide ((zt l_1 0:Int)>3))
 (.r false)
 (.g (zO 1 l_1.length) <|
 .c (decide ((zt l_1 1:Int)>x.most))
 (.r false)
 (.g (zO 4 l_1.length) <|
 .c (decide ((zt l_1 4:Int)>x.outs))
 (.r false)
 (.g (zO 2 l_1.length) <|
 .c (decide ((zt l_1 2:Int)>6))
 (.r false)
 (.g (zO 2 l_1.length) <|
 .c ((zt l_1 2:Int)==0)
 (.g (zO 3 l_1.length) <|
 .c (!((zt l_1 3:Int)==0))
 (.r false)
 (.g (zO 0 l_1.length) <|
 .c (!((zt l_1 0:Int)==2))
 (.r true)
 (.g (zO 1 l_1.length) <|
 .n)))
 (.g (zO 0 l_1.length) <|
 .c (!((zt l_1 0:Int)==2))
 (.r true)
 (.g (zO 1 l_1.length) <|
 .n))))))
theorem zIY(x:zX)(l_1:(List Int)):Oks 169 [.agg [(zg x.place.lock),(zg x.place.save),(zg x.place.state),(zg x.place.root),.sl (.i .i64) x.place.qs,(zu x.entry),(zu x.most),(zu x.outs),.any,.any],.sl (.i .u32) l_1] [] (zrf x l_1) zQx:=zM GC0 (H:=H0) zJ Tryz.func169 rfl (by kernel_rfl) (fun J=>by kernel_rfl)
abbrev R98:=Int × Int
def to98(r:R98):Ans:=⟨.tup [(zg r.1),(zg r.2)],[]⟩
def zpB(d:(Option zG))(p:Int)(port:Int):Option R98:=Tree.run0 <|
 .b (zhL d p port) fun r1=>
 .c d.isNone
 (.r (0,0))
 (.c (!r1.2)
 (.r (0,1))
 (.c (!r1.1.qb)
 (.r (0,2))
 (.g d.isSome <|
 .g (zO r1.1.ql ((d.getD default).c.qw).length) <|
 .r ((zw ((d.getD default).c.qw) r1.1.ql.toNat).qx,0))))
theorem zOR(d:(Option zG))(p:Int)(port:Int):Oks 98 [.op .sDuctDucts d,(zg p),(zg port)] [] (zpB d p port) to98:=zM GC0 (H:=H0) zJ Tryz.func98 rfl (by kernel_rfl) (fun J=>by kernel_rfl)
abbrev zy4:=Bool
def zQi(r:zy4):Ans:=⟨(avB r),[]⟩
inductive zwY where | l0 (x0:Int)
def H150:zab:=htt [] [(0,⟨fgt [1,2,10,11,12] 33 0,[]⟩)] []
def zPl(c:za)(p:Int):zwY->Nat × St | .l0 x0=>(0,⟨mkE [(1,(zg p)),(2,.ref 0 0),(10,.sl .sPartition ((c.qq.take p.toNat).drop 0)),(11,(zg (((c.qq.take p.toNat).drop 0).length))),(12,(zg x0))] 33 0,[.cells 26 (Ty.enc .sConfig c)],GL,0,[],zN⟩)
def zp7(c:za)(p:Int):zwY->Tree zwY zy4 | .l0 x0 =>let y1:=(c.qq.take p.toNat).drop 0;let y2:=(zb c.qq p.toNat).name;let y3:=zO p c.qq.length;.c (decide (x0<y1.length)) (.g (zO x0 y1.length) <| .g y3 <| .c (((zb y1 x0.toNat).name).toList==y2.toList) (.r false) (.j (.l0 (i64.wrap (x0+1))))) (.g y3 <| .b (zre y2) fun r1=>.r r1)
def zAa(c:za)(p:Int):Tree zwY zy4:=.g (inS 0 p c.qq.length) <| .j (.l0 0)
def zqU(c:za)(p:Int):zwY->Option zy4:=zal (zp7 c p)
theorem zph(c:za)(p:Int)(l:zwY):zqU c p l=(zp7 c p l).run (zqU c p):=zE _ l
def znm(c:za)(p:Int):Option zy4:=(zAa c p).run (zqU c p)
theorem zIF(c:za)(p:Int):Oks 150 [.agg (Ty.enc .sConfig c),(zg p)] [] (znm c p) zQi:=zL GC0 (H:=H150) zJ Tryz.func150 rfl (by kernel_rfl) (zPl c p) (fun J l=>by cases l <;> kernel_rfl) (fun J=>by kernel_rfl)
abbrev zxr:=Int × ze
def zF9(r:zxr):Ans:=⟨(zg r.1),[.cells 112 [.own 1],.arr 46 (.i .u32) r.2.qx]⟩
inductive zxf where | l0 (x0:Int) (x1:List Int)
def H229:zab:=htt [] [(0,⟨fgt [0,1,3,18,19] 32 0,[]⟩)] []
def zPC(pl:Int)(many:Int)(word:Int)(ws:List Int):zxf->Nat × St | .l0 x0 x1=>(0,⟨mkE [(0,.ref 0 0),(1,(zg pl)),(3,(zu word)),(18,(zg many)),(19,(zg x0))] 32 0,[.cells 112 [.own 1],.arr 46 (.i .u32) x1],GL,2,[],zN⟩)
def zqd(pl:Int)(many:Int)(word:Int)(ws:List Int):zxf->Tree zxf zxr | .l0 x0 x1 =>let y1:=i64.wrap (pl+x0);.c (decide (x0<many)) (.g (zO y1 x1.length) <| .j (.l0 (i64.wrap (x0+1)) (List.set x1 (y1.toNat) word))) (.r (0,(⟨x1⟩:ze)))
def zAp(pl:Int)(many:Int)(word:Int)(ws:List Int):Tree zxf zxr:=.b (zfu (some (⟨ws⟩:ze)) pl many) fun r1=>.c (!((r1:Int)==0)) (.r (r1,(⟨ws⟩:ze))) (.j (.l0 0 ws))
def zih(pl:Int)(many:Int)(word:Int)(ws:List Int):zxf->Option zxr:=zal (zqd pl many word ws)
theorem zpn(pl:Int)(many:Int)(word:Int)(ws:List Int)(l:zxf):zih pl many word ws l=(zqd pl many word ws l).run (zih pl many word ws):=zE _ l
def zkB(pl:Int)(many:Int)(word:Int)(ws:List Int):Option zxr:=(zAp pl many word ws).run (zih pl many word ws)
theorem zJA(pl:Int)(many:Int)(word:Int)(ws:List Int):Oks 229 [.ref 0 0,(zg pl),(zg many),(zu word)] [.cells 112 [.own 1],.arr 46 (.i .u32) ws] (zkB pl many word ws) zF9:=zL GC0 (H:=H229) zJ Tryz.func229 rfl (by kernel_rfl) (zPC pl many word ws) (fun J l=>by cases l <;> kernel_rfl) (fun J=>by kernel_rfl)
abbrev R56:=Bool
def to56(r:R56):Ans:=⟨(avB r),[]⟩
inductive L56 where | l0 (x0:Int)
def H56:zab:=htt [] [(0,⟨fgt [1,2,5] 19 0,[]⟩)] []
def st56(p:zf)(program:(List Int)):L56->Nat × St | .l0 x0=>(0,⟨mkE [(1,.sl (.i .u32) program),(2,.ref 0 0),(5,(zg x0))] 19 0,[.cells 72 (Ty.enc .sPartition p)],GL,0,[],zN⟩)
def zrI(p:zf)(program:(List Int)):L56->Tree L56 R56 | .l0 x0=>.c (decide (x0<program.length)) (.b (zpA p x0) fun r1=>.c (decide ((r1:Int)<0)) (.r false) (.j (.l0 (i64.wrap (x0+16))))) (.r true)
def zE0(p:zf)(program:(List Int)):Tree L56 R56:=.c (decide ((program.length:Int)>1024)) (.r false) (.j (.l0 0))
def zv6(p:zf)(program:(List Int)):L56->Option R56:=zal (zrI p program)
theorem znb(p:zf)(program:(List Int))(l:L56):zv6 p program l=(zrI p program l).run (zv6 p program):=zE _ l
def zth(p:zf)(program:(List Int)):Option R56:=(zE0 p program).run (zv6 p program)
theorem zOb(p:zf)(program:(List Int)):Oks 56 [.agg (Ty.enc .sPartition p),.sl (.i .u32) program] [] (zth p program) to56:=zL GC0 (H:=H56) zJ Tryz.func56 rfl (by kernel_rfl) (st56 p program) (fun J l=>by cases l <;> kernel_rfl) (fun J=>by kernel_rfl)
abbrev R21:=Int × Int
def to21(r:R21):Ans:=⟨.tup [(zu r.1),(zg r.2)],[]⟩
def zeE(m:(Option ze))(at_1:Int):Option R21:=Tree.run0 <|
 .b (zfu m at_1 1) fun r1=>
 .c (!((r1:Int)==0))
 (.r (0,r1))
 (.g m.isSome <|
 .g (zO at_1 ((m.getD default).qx).length) <|
 .r (zt ((m.getD default).qx) at_1.toNat,0))
theorem zNE(m:(Option ze))(at_1:Int):Oks 21 [.op .sMemMemory m,(zg at_1)] [] (zeE m at_1) to21:=zM GC0 (H:=H0) zJ Tryz.func21 rfl (by kernel_rfl) (fun J=>by kernel_rfl)
abbrev R227:=Int
def zQO(r:R227):Ans:=⟨(zg r),[]⟩
def zfR(m:(Option ze))(at_1:Int)(n_2:Int):Option R227:=Tree.run0 <|
 .c (decide ((at_1:Int)<0))
 (.r 51)
 (.b (zdJ m) fun r1=>
 .c (decide ((at_1:Int)>(i64.wrap ((i64.wrap (r1*16))-n_2))))
 (.r 51)
 (.r 0))
theorem zJy(m:(Option ze))(at_1:Int)(n_2:Int):Oks 227 [.op .sMemMemory m,(zg at_1),(zg n_2)] [] (zfR m at_1 n_2) zQO:=zM GC0 (H:=H0) zJ Tryz.func227 rfl (by kernel_rfl) (fun J=>by kernel_rfl)
abbrev R117:=zx
def zPR(r:R117):Ans:=⟨.agg [(zg r.e),(zg r.where_.first),(zg r.where_.second)],[]⟩
def zFy(a:za):R117:=(zag (za1 a.qp.length 1 4) 402 nowhere)
theorem zBk(a:za):Oks 117 [.op .sConfig (some a)] [] (some (zFy a)) zPR:=zbj GC0 (H:=H0) zJ Tryz.func117 rfl (by kernel_rfl) (fun J=>by kernel_rfl)
abbrev R176:=Int
def zQC(r:R176):Ans:=⟨(zg r),[]⟩
def zeO(f:zy)(head:Int):R176:=(i64.wrap (head+(i64.wrap (f.qy*(zmW f)))))
theorem zI5(f:zy)(head:Int):Oks 176 [.agg [(zg f.qx),(zg f.qy)],(zg head)] [] (some (zeO f head)) zQC:=zbj GC0 (H:=H0) zJ Tryz.func176 rfl (by kernel_rfl) (fun J=>by kernel_rfl)
abbrev R77:=Int
def to77(r:R77):Ans:=⟨.fn (.func 129) [] [.ref 0 0],[.cells 3 [(zg r)]]⟩
def zn9(at_0:Int):R77:=at_0
theorem zOw(at_0:Int):Oks 77 [(zg at_0)] [] (some (zn9 at_0)) to77:=zbj GC0 (H:=H0) zJ Tryz.func77 rfl (by kernel_rfl) (fun J=>by kernel_rfl)
abbrev zy5:=zx
def zQk(r:zy5):Ans:=⟨.agg [(zg r.e),(zg r.where_.first),(zg r.where_.second)],[]⟩
inductive zwZ where | l0 (x0:Int) | l4 (x0:Int) | l8 (x0:Int) (x1:Int) (x2:List Region) (x3:Int) (x4:Int)
def H152:zab:=htt [] [(0,⟨fgt [1,2,3,6,7,68,69,70] 133 0,[]⟩),(4,⟨fgt [1,2,6,7,92,93,94] 133 0,[]⟩),(8,⟨fgt [1,2,6,7,10,92,93,94,100,101,102] 133 0,[]⟩)] []
def zPm(c:za)(p:Int)(k:Int):zwZ->Nat × St | .l0 x0=>(0,⟨mkE [(1,(zg p)),(2,(zg k)),(3,.ref 0 0),(6,.ref 1 0),(7,.ref 2 0),(68,.sl .sRegion ((((zb c.qq p.toNat).qe).take k.toNat).drop 0)),(69,(zg (((((zb c.qq p.toNat).qe).take k.toNat).drop 0).length))),(70,(zg x0))] 133 0,[.cells 26 (Ty.enc .sConfig c),.cells 194 [(zg 0),(zg 0),(zg 0)],.cells 138 (Ty.enc .sRegion (zi ((zb c.qq p.toNat).qe) k.toNat))],GL,0,[],zN⟩) | .l4 x0=>(4,⟨mkE [(1,(zg p)),(2,(zg k)),(6,.ref 0 0),(7,.ref 1 0),(92,.sl .sPartition ((c.qq.take (i64.wrap (p+1)).toNat).drop 0)),(93,(zg (((c.qq.take (i64.wrap (p+1)).toNat).drop 0).length))),(94,(zg x0))] 133 0,[.cells 194 [(zg 0),(zg 0),(zg 0)],.cells 138 (Ty.enc .sRegion (zi ((zb c.qq p.toNat).qe) k.toNat))],GL,0,[],zN⟩) | .l8 x0 x1 x2 x3 x4=>(8,⟨mkE [(1,(zg p)),(2,(zg k)),(6,.ref 0 0),(7,.ref 1 0),(10,(zg x0)),(92,.sl .sPartition ((c.qq.take (i64.wrap (p+1)).toNat).drop 0)),(93,(zg (((c.qq.take (i64.wrap (p+1)).toNat).drop 0).length))),(94,(zg x1)),(100,.sl .sRegion x2),(101,(zg x3)),(102,(zg x4))] 133 0,[.cells 194 [(zg 0),(zg 0),(zg 0)],.cells 138 (Ty.enc .sRegion (zi ((zb c.qq p.toNat).qe) k.toNat))],GL,0,[],zN⟩)
def zga(c:za)(p:Int)(k:Int):zwZ->Tree zwZ zy5 | .l0 x0 =>let y1:=(zb c.qq p.toNat).qe;let y2:=(y1.take k.toNat).drop 0;let y3:=zi y2 x0.toNat;let y4:=zi y1 k.toNat;.c (decide (x0<y2.length)) (.g (zO x0 y2.length) <| .c (zv2 (y4.page) (y4.qc) (y3.page) (y3.qc)) (.r (⟨410,(zdI p k)⟩:zx)) (.j (.l0 (i64.wrap (x0+1))))) (.g (inS 0 (i64.wrap (p+1)) c.qq.length) <| .j (.l4 0)) | .l4 x0 =>let y1:=(c.qq.take (i64.wrap (p+1)).toNat).drop 0;let y2:=(zb y1 x0.toNat).qe;.c (decide (x0<y1.length)) (.g (zO x0 y1.length) <| .j (.l8 x0 x0 y2 (y2.length) 0)) (.r fine) | .l8 x0 x1 x2 x3 x4 =>let y2:=zi ((zb c.qq p.toNat).qe) k.toNat;let y3:=i64.wrap (x4+1);let y4:=(⟨411,(zdI p k)⟩:zx);let y5:=zi x2 x4.toNat;let y1:=zv2 (y2.frame) (y2.qc) (y5.frame) (y5.qc);.c (decide (x4<x3)) (.g (zO x4 x2.length) <| .c (decide (x0<p)) (.c y1 (.r y4) (.j (.l8 x0 x1 x2 x3 y3))) (.c (decide (x4<k)) (.c y1 (.r y4) (.j (.l8 x0 x1 x2 x3 y3))) (.j (.l8 x0 x1 x2 x3 y3)))) (.j (.l4 (i64.wrap (x1+1))))
def zAb(c:za)(p:Int)(k:Int):Tree zwZ zy5:=.g (zO p c.qq.length) <| .g (zO k ((zb c.qq p.toNat).qe).length) <| .c (!(za1 ((zi ((zb c.qq p.toNat).qe) k.toNat).page) 0 255)) (.r (⟨409,(zdI p k)⟩:zx)) (.c (!(za1 ((zi ((zb c.qq p.toNat).qe) k.toNat).qc) 1 (i64.wrap (256-(zi ((zb c.qq p.toNat).qe) k.toNat).page)))) (.r (⟨409,(zdI p k)⟩:zx)) (.c (decide (((zi ((zb c.qq p.toNat).qe) k.toNat).frame:Int)<0)) (.r (⟨409,(zdI p k)⟩:zx)) (.c (decide (((zi ((zb c.qq p.toNat).qe) k.toNat).qc:Int)>(i64.wrap (c.qr-(zi ((zb c.qq p.toNat).qe) k.toNat).frame)))) (.r (⟨409,(zdI p k)⟩:zx)) (.c (!(za1 ((zi ((zb c.qq p.toNat).qe) k.toNat).qv) 1 7)) (.r (⟨409,(zdI p k)⟩:zx)) (.g (zO p c.qq.length) <| .g (inS 0 k ((zb c.qq p.toNat).qe).length) <| .j (.l0 0))))))
def zdl(c:za)(p:Int)(k:Int):zwZ->Option zy5:=zal (zga c p k)
theorem zef(c:za)(p:Int)(k:Int)(l:zwZ):zdl c p k l=(zga c p k l).run (zdl c p k):=zE _ l
def zrb(c:za)(p:Int)(k:Int):Option zy5:=(zAb c p k).run (zdl c p k)
theorem zIH(c:za)(p:Int)(k:Int):Oks 152 [.agg (Ty.enc .sConfig c),(zg p),(zg k)] [] (zrb c p k) zQk:=zL GC0 (H:=H152) zJ Tryz.func152 rfl (by kernel_rfl) (zPm c p k) (fun J l=>by cases l <;> kernel_rfl) (fun J=>by kernel_rfl)
abbrev zzb:=(List (List Int)) × Bool
def zQD(r:zzb):Ans:=⟨.tup [.own 0,(avB r.2)],[.arr 53 (.sl (.i .u32)) r.1]⟩
inductive zw8 where | l0 (x0:Int) (x1:List (List Int)) | l27 (x0:Int) (x1:List (List Int))
def H177:zab:=htt [13] [(0,⟨fgt [1,2,3,4,10,28,29] 75 0,[(.slot 10,.own 53 (.sl (.i .u32)))]⟩),(27,⟨fgt [1,2,3,4,10,28,29] 75 0,[(.slot 10,.own 53 (.sl (.i .u32)))]⟩)] [(.slot 0,.own 53 (.sl (.i .u32)))]
def zPv(f:zy)(l_1:(List Int))(first:Int)(many:Int):zw8->Nat × St | .l0 x0 x1=>(0,⟨mkE [(1,.sl (.i .u32) l_1),(2,(zu first)),(3,(zu many)),(4,.ref 0 0),(10,.own 1),(28,(zg f.qy)),(29,(zg x0))] 75 0,[.cells 299 [(zg f.qx),(zg f.qy)],.arr 53 (.sl (.i .u32)) x1],GL,0,[],zN⟩) | .l27 x0 x1=>(27,⟨mkE [(1,.sl (.i .u32) l_1),(2,(zu first)),(3,(zu many)),(4,.ref 0 0),(10,.own 1),(28,(zg f.qy)),(29,(zg x0))] 75 0,[.cells 299 [(zg f.qx),(zg f.qy)],.arr 53 (.sl (.i .u32)) x1],GL,0,[],zN⟩)
def zl1(f:zy)(l_1:(List Int))(first:Int)(many:Int):zw8->Tree zw8 zzb | .l0 x0 x1 =>let y1:=dv .rem .i64 (i64.wrap ((i64.wrap first)+x0)) f.qy;let y2:=i64.wrap ((i64.wrap (y1+1))*(zmW f));let y3:=i64.wrap (y1*(zmW f));let y4:=(x1:List (List Int));.c (decide (x0<f.qy)) (.c (decide ((f.qy:Int)=0)) (.n) (.g (inS y3 y2 l_1.length) <| .b (zns ((l_1.take y2.toNat).drop y3.toNat)) fun r2=>.c (!r2.2) (.r ([],false)) (.c (!((decide ((r2.1.length:Int)>0))==(decide (x0<(i64.wrap many))))) (.r ([],false)) (.c (decide ((r2.1.length:Int)>0)) (.g (leB ((y4.length+([r2.1]:List (List Int)).length)*24) 140737488355328) <| .j (.l27 x0 (y4++[r2.1]))) (.j (.l27 x0 x1)))))) (.r (x1,true)) | .l27 x0 x1=>.j (.l0 (i64.wrap (x0+1)) x1)
def zAi(f:zy)(l_1:(List Int))(first:Int)(many:Int):Tree zw8 zzb:=.c (decide ((many:Int)>(u32.wrap f.qy))) (.r ([],false)) (.c (decide ((first:Int)>=(u32.wrap f.qy))) (.r ([],false)) (.j (.l0 0 [])))
def zgH(f:zy)(l_1:(List Int))(first:Int)(many:Int):zw8->Option zzb:=zal (zl1 f l_1 first many)
theorem zkk(f:zy)(l_1:(List Int))(first:Int)(many:Int)(l:zw8):zgH f l_1 first many l=(zl1 f l_1 first many l).run (zgH f l_1 first many):=zE _ l
def zil(f:zy)(l_1:(List Int))(first:Int)(many:Int):Option zzb:=(zAi f l_1 first many).run (zgH f l_1 first many)
theorem zI6(f:zy)(l_1:(List Int))(first:Int)(many:Int):Oks 177 [.agg [(zg f.qx),(zg f.qy)],.sl (.i .u32) l_1,(zu first),(zu many)] [] (zil f l_1 first many) zQD:=zL GC0 (H:=H177) zJ Tryz.func177 rfl (by kernel_rfl) (zPv f l_1 first many) (fun J l=>by cases l <;> kernel_rfl) (fun J=>by kernel_rfl)
abbrev R7:=Bool
def to7(r:R7):Ans:=⟨(avB r),[]⟩
inductive L7 where | l0 (x0:Int) (x1:Int) | l4 (x0:Int) (x1:Int)
def H7:zab:=htt [] [(0,⟨fgt [1,3,4] 57 0,[]⟩),(4,⟨fgt [1,3,5] 57 0,[]⟩)] []
def st7(x:zp):L7->Nat × St | .l0 x0 x1=>(0,⟨mkE [(1,.ref 0 0),(3,(zg x0)),(4,(zg x1))] 57 0,[.cells 30 (Ty.enc .sBulkheadlaw25Start x)],GL,0,[],zN⟩) | .l4 x0 x1=>(4,⟨mkE [(1,.ref 0 0),(3,(zg x0)),(5,(zg x1))] 57 0,[.cells 30 (Ty.enc .sBulkheadlaw25Start x)],GL,0,[],zN⟩)
def zxx(x:zp):L7->Tree L7 R7 | .l0 x0 x1=>.c (decide (x1<x.qo.length)) (.c (decide (x0<=2147483647)) (.g (zO x1 x.qo.length) <| .j (.l0 (i64.wrap (x0+(zW x.qo x1.toNat).length)) (i64.wrap (x1+1)))) (.j (.l4 x0 0))) (.j (.l4 x0 0)) | .l4 x0 x1 =>let y1:=decide (x0>2147483647);.c (decide (x1<x.qi.length)) (.c (decide (x0<=2147483647)) (.g (zO x1 x.qi.length) <| .j (.l4 (i64.wrap (x0+((zA x.qi x1.toNat).qx).length)) (i64.wrap (x1+1)))) (.r y1)) (.r y1)
def ent7(x:zp):Tree L7 R7:=.b (zB7 x.qj) fun r1=>.c r1 (.r true) (.j (.l0 (i64.wrap (x.qo.length+x.qi.length)) 0))
def zB6(x:zp):L7->Option R7:=zal (zxx x)
theorem zlM(x:zp)(l:L7):zB6 x l=(zxx x l).run (zB6 x):=zE _ l
def zB9(x:zp):Option R7:=(ent7 x).run (zB6 x)
theorem oks7(x:zp):Oks 7 [.agg (Ty.enc .sBulkheadlaw25Start x)] [] (zB9 x) to7:=zL GC0 (H:=H7) zJ Tryz.func7 rfl (by kernel_rfl) (st7 x) (fun J l=>by cases l <;> kernel_rfl) (fun J=>by kernel_rfl)
abbrev zyY:=Bool
def zP7(r:zyY):Ans:=⟨(avB r),[]⟩
inductive zwS where | l0 (x0:Int)
def H137:zab:=htt [] [(0,⟨fgt [1,3] 39 0,[]⟩)] []
def zPf(p:zf):zwS->Nat × St | .l0 x0=>(0,⟨mkE [(1,.ref 0 0),(3,(zg x0))] 39 0,[.cells 72 (Ty.enc .sPartition p)],GL,0,[],zN⟩)
def zp4(p:zf):zwS->Tree zwS zyY | .l0 x0 =>let y1:=zi p.qe x0.toNat;let y2:=i64.wrap (x0+1);.c (decide (x0<p.qe.length)) (.g (zO x0 p.qe.length) <| .c (zaQ (bop .quo .i64 p.entry 16) (y1.page) (i64.wrap ((i64.wrap (y1.page+y1.qc))-1))) (.c (!(((bop .and .i64 (y1.qv) 4):Int)==0)) (.r true) (.j (.l0 y2))) (.j (.l0 y2))) (.r false)
def zz7(p:zf):Tree zwS zyY:=.c (!(zaQ p.entry 0 4095)) (.r false) (.j (.l0 0))
def zm1(p:zf):zwS->Option zyY:=zal (zp4 p)
theorem zpe(p:zf)(l:zwS):zm1 p l=(zp4 p l).run (zm1 p):=zE _ l
def znk(p:zf):Option zyY:=(zz7 p).run (zm1 p)
theorem zIs(p:zf):Oks 137 [.agg (Ty.enc .sPartition p)] [] (znk p) zP7:=zL GC0 (H:=H137) zJ Tryz.func137 rfl (by kernel_rfl) (zPf p) (fun J l=>by cases l <;> kernel_rfl) (fun J=>by kernel_rfl)
abbrev R160:=Bool
def zQs(r:R160):Ans:=⟨(avB r),[]⟩
def zsH(c:za)(g:Region):R160:=Tree.val (L:=Empty) <|
 .c (!(zaQ g.page 0 255))
 (.r false)
 (.c (!(zaQ g.qc 1 (i64.wrap (256-g.page))))
 (.r false)
 (.c (decide ((g.frame:Int)>=0))
 (.c (decide ((g.qc:Int)<=(i64.wrap (c.qr-g.frame))))
 (.r (zaQ g.qv 1 7))
 (.r false))
 (.r false)))
theorem zIP(c:za)(g:Region):Oks 160 [.agg (Ty.enc .sConfig c),.agg (Ty.enc .sRegion g)] [] (some (zsH c g)) zQs:=zbx GC0 (H:=H0) zJ Tryz.func160 rfl (by kernel_rfl) rfl (fun J=>by kernel_rfl)
abbrev zyW:=Bool
def zP5(r:zyW):Ans:=⟨(avB r),[]⟩
inductive zwQ where | l0 (x0:Int)
def H135:zab:=htt [] [(0,⟨fgt [1,2,5] 31 0,[]⟩)] []
def zPd(c:za)(p:Int):zwQ->Nat × St | .l0 x0=>(0,⟨mkE [(1,(zg p)),(2,.ref 0 0),(5,(zg x0))] 31 0,[.cells 26 (Ty.enc .sConfig c)],GL,0,[],zN⟩)
def zp3(c:za)(p:Int):zwQ->Tree zwQ zyW | .l0 x0 =>let y1:=(zb c.qq p.toNat).name;let y2:=zO p c.qq.length;.c (decide (x0<p)) (.g (zO x0 c.qq.length) <| .g y2 <| .c (((zb c.qq x0.toNat).name).toList==y1.toList) (.r false) (.j (.l0 (i64.wrap (x0+1))))) (.g y2 <| .b (zrd y1) fun r1=>.r r1)
def zHq(c:za)(p:Int):Tree zwQ zyW:=.j (.l0 0)
def zqS(c:za)(p:Int):zwQ->Option zyW:=zal (zp3 c p)
theorem zpd(c:za)(p:Int)(l:zwQ):zqS c p l=(zp3 c p l).run (zqS c p):=zE _ l
def zq7(c:za)(p:Int):Option zyW:=(zHq c p).run (zqS c p)
theorem zIq(c:za)(p:Int):Oks 135 [.agg (Ty.enc .sConfig c),(zg p)] [] (zq7 c p) zP5:=zL GC0 (H:=H135) zJ Tryz.func135 rfl (by kernel_rfl) (zPd c p) (fun J l=>by cases l <;> kernel_rfl) (fun J=>by kernel_rfl)
abbrev R31:=ze × Int
def to31(r:R31):Ans:=⟨.tup [.ref 0 0,(zg r.2)],[.cells 112 [.own 1],.arr 46 (.i .u32) r.1.qx]⟩
def H31:zab:=⟨fun _=>false,fun _=>⟨[],[]⟩,[(.slot 0,.fnc)],G0,zN⟩
def zli(qx:(List Int)):Option R31:=Tree.run0 <|
 .c (decide ((qx.length:Int)>16384))
 (.n)
 (.c ((qx.length:Int)==0)
 (.n)
 (.c (!(((bop .rem .i64 qx.length 16):Int)==0))
 (.n)
 (.b (zgS qx) fun r1=>
 .r ((⟨r1⟩:ze),0))))
theorem zNO(qx:(List Int)):Oks 31 [.sl (.i .u32) qx] [] (zli qx) to31:=zM GC0 (H:=H31) zJ Tryz.func31 rfl (by kernel_rfl) (fun J=>by kernel_rfl)
abbrev R80:=Int
def to80(r:R80):Ans:=⟨(zg r),[]⟩
def zB1(h_0:zI):R80:=Tree.val (L:=Empty) <|
 .c (((zqQ h_0):Int)==0)
 (.r 0)
 (.c ((h_0.kind:Int)==1)
 (.r (i64.wrap ((zqQ h_0)+1)))
 (.r (i64.wrap ((zqQ h_0)+2))))
theorem zOz(h_0:zI):Oks 80 [.agg (Ty.enc .sChannel h_0)] [] (some (zB1 h_0)) to80:=zbx GC0 (H:=H0) zJ Tryz.func80 rfl (by kernel_rfl) rfl (fun J=>by kernel_rfl)
abbrev zxo:=Int × ze
def zFS(r:zxo):Ans:=⟨(zg r.1),[.cells 112 [.own 1],.arr 46 (.i .u32) r.2.qx]⟩
inductive zw9 where | l9 (v0:R43) (x0:List Int)
def H179:zab:=htt [4] [(9,⟨fgt [7] 24 0,[]⟩)] []
def zPw(pl:Int)(qx:(List Int))(ws:List Int):zw9->Nat × St | .l9 v0 x0=>(9,⟨mkE [(7,(zg v0))] 24 0,[.cells 112 [.own 1],.arr 46 (.i .u32) x0],GL,2,[],zN⟩)
def ztX(pl:Int)(qx:(List Int))(ws:List Int):zw9->Tree zw9 zxo | .l9 v0 x0=>.r (v0,(⟨x0⟩:ze))
def zAj(pl:Int)(qx:(List Int))(ws:List Int):Tree zw9 zxo:=.b (zfu (some (⟨ws⟩:ze)) pl qx.length) fun r1=>.c ((r1:Int)==0) (.g (inS pl ws.length ws.length) <| .j (.l9 r1 (zcH ws pl.toNat (List.take ((ws.length:Int).toNat-pl.toNat) (qx:List Int))))) (.j (.l9 r1 ws))
def zuJ(pl:Int)(qx:(List Int))(ws:List Int):zw9->Option zxo:=zal (ztX pl qx ws)
theorem zyp(pl:Int)(qx:(List Int))(ws:List Int)(l:zw9):zuJ pl qx ws l=(ztX pl qx ws l).run (zuJ pl qx ws):=zE _ l
def ze3(pl:Int)(qx:(List Int))(ws:List Int):Option zxo:=(zAj pl qx ws).run (zuJ pl qx ws)
theorem zI8(pl:Int)(qx:(List Int))(ws:List Int):Oks 179 [.ref 0 0,(zg pl),.sl (.i .u32) qx] [.cells 112 [.own 1],.arr 46 (.i .u32) ws] (ze3 pl qx ws) zFS:=zL GC0 (H:=H179) zJ Tryz.func179 rfl (by kernel_rfl) (zPw pl qx ws) (fun J l=>by cases l <;> kernel_rfl) (fun J=>by kernel_rfl)
abbrev R109:=Int
def zPJ(r:R109):Ans:=⟨(zg r),[]⟩
def zo8(h_0:zI):R109:=Tree.val (L:=Empty) <|
 .c (((zmV h_0):Int)==0)
 (.r 0)
 (.r (i64.wrap (3+(zmV h_0))))
theorem zId(h_0:zI):Oks 109 [.agg (Ty.enc .sChannel h_0)] [] (some (zo8 h_0)) zPJ:=zbx GC0 (H:=H0) zJ Tryz.func109 rfl (by kernel_rfl) rfl (fun J=>by kernel_rfl)
abbrev R162:=Bool
def zQt(r:R162):Ans:=⟨(avB r),[]⟩
def zkp(m:(Option ze))(frame:Int):Option R162:=Tree.run0 <|
 .c (decide ((frame:Int)>=0))
 (.b (zdJ m) fun r1=>
 .r (decide ((frame:Int)<r1)))
 (.r false)
theorem zIR(m:(Option ze))(frame:Int):Oks 162 [.op .sMemMemory m,(zg frame)] [] (zkp m frame) zQt:=zM GC0 (H:=H0) zJ Tryz.func162 rfl (by kernel_rfl) (fun J=>by kernel_rfl)
abbrev R118:=zx
def zPS(r:R118):Ans:=⟨.agg [(zg r.e),(zg r.where_.first),(zg r.where_.second)],[]⟩
def zFz(a:za):R118:=(zag (za1 a.qq.length 1 8) 403 nowhere)
theorem zBl(a:za):Oks 118 [.op .sConfig (some a)] [] (some (zFz a)) zPS:=zbj GC0 (H:=H0) zJ Tryz.func118 rfl (by kernel_rfl) (fun J=>by kernel_rfl)
abbrev R88:=Int × za0
def to88(r:R88):Ans:=⟨.tup [(zg r.1),.agg [(zg r.2.first),(zg r.2.second)]],[]⟩
inductive L88 where | l0 (x0:Int) (x1:Int)
def H88:zab:=htt [] [(0,⟨fgt [1,2,5,6,7] 84 0,[]⟩)] []
def st88(c:za)(i:Int):L88->Nat × St | .l0 x0 x1=>(0,⟨mkE [(1,(zg i)),(2,.ref 0 0),(5,.ref 1 0),(6,(zg x0)),(7,(zg x1))] 84 0,[.cells 26 (Ty.enc .sConfig c),.cells 144 [(zg 0),(zg 0)]],GL,0,[],zN⟩)
def zvh(c:za)(i:Int):L88->Tree L88 R88 | .l0 x0 x1 =>let y2:=(⟨i,x1⟩:za0);let y3:=zD c.qp i.toNat;let y1:=zbC y3 x1.toNat;let y4:=zO i c.qp.length;.g y4 <| .c (decide (x1<y3.length)) (.g y4 <| .g (zO x1 y3.length) <| .c (!(zaQ (y1.qk) (-1) (i64.wrap (c.qq.length-1)))) (.r (419,y2)) (.c (!(zaQ (y1.qm) 1 16384)) (.r (419,y2)) (.c (!(zaQ (y1.qQ) 82 16384)) (.r (420,y2)) (.b (zq9 c i (y1.qk)) fun r1=>.c r1 (.r (422,y2)) (.j (.l0 (i64.wrap (x0+(i64.wrap (y1.qm+y1.qQ)))) (i64.wrap (x1+1)))))))) (.c (!(x0==c.major)) (.r (421,(zlv i))) (.r (0,(⟨0,0⟩:za0))))
def zFb(c:za)(i:Int):Tree L88 R88:=.g (zO i c.qp.length) <| .c (!(zaQ ((zD c.qp i.toNat).length) 1 16)) (.r (418,(zlv i))) (.j (.l0 0 0))
def zv8(c:za)(i:Int):L88->Option R88:=zal (zvh c i)
theorem zs7(c:za)(i:Int)(l:L88):zv8 c i l=(zvh c i l).run (zv8 c i):=zE _ l
def zwo(c:za)(i:Int):Option R88:=(zFb c i).run (zv8 c i)
theorem zOH(c:za)(i:Int):Oks 88 [.agg (Ty.enc .sConfig c),(zg i)] [] (zwo c i) to88:=zL GC0 (H:=H88) zJ Tryz.func88 rfl (by kernel_rfl) (st88 c i) (fun J l=>by cases l <;> kernel_rfl) (fun J=>by kernel_rfl)
abbrev R39:=Bool
def to39(r:R39):Ans:=⟨(avB r),[]⟩
def znC(c:za)(o:zq)(told:Int)(at_3:Int)(own:zaF):Option R39:=Tree.run0 <|
 .c (!((told:Int)==0))
 (.r false)
 (.c ((o.call:Int)==0)
 (.c ((own.kind:Int)==5)
 (.r ((own.index:Int)==o.p))
 (.r false))
 (.c ((o.call:Int)==7)
 (.c ((own.kind:Int)==5)
 (.r ((own.index:Int)==o.p))
 (.r false))
 (.c ((o.call:Int)==5)
 (.c ((own.kind:Int)==5)
 (.r ((own.index:Int)==o.p))
 (.r false))
 (.c ((o.call:Int)==1)
 (.c ((own.kind:Int)==7)
 (.b (znH c o.p own.index true) fun r1=>
 .r r1)
 (.r false))
 (.c ((o.call:Int)==2)
 (.c ((own.kind:Int)==1)
 (.c ((own.index:Int)==o.p)
 (.b (zwk c o.p at_3) fun r2=>
 .r (((bop .rem .i64 (bop .quo .i64 r2 2) 2):Int)==1))
 (.r false))
 (.c ((own.kind:Int)==8)
 (.r ((own.index:Int)==o.p))
 (.r false)))
 (.r false))))))
theorem zNW(c:za)(o:zq)(told:Int)(at_3:Int)(own:zaF):Oks 39 [.agg (Ty.enc .sConfig c),.agg (Ty.enc .sBulkheadlaw25Op o),(zu told),(zg at_3),.agg (Ty.enc .sOwner own)] [] (znC c o told at_3 own) to39:=zM GC0 (H:=H0) zJ Tryz.func39 rfl (by kernel_rfl) (fun J=>by kernel_rfl)
abbrev R86:=Int
def to86(r:R86):Ans:=⟨(zg r),[]⟩
def zwn(c:za)(h_1:Int):Option R86:=Tree.run0 <|
 .g (zO h_1 c.qw.length) <|
 .c (!(((zw c.qw h_1.toNat).kind:Int)==2))
 (.c (!(((zw c.qw h_1.toNat).kind:Int)==1))
 (.r 415)
 (.c (!(zaQ ((zw c.qw h_1.toNat).qx) 1 16))
 (.r 415)
 (.c (((zw c.qw h_1.toNat).kind:Int)==2)
 (.c (!(zaQ ((zw c.qw h_1.toNat).qy) 1 8))
 (.r 415)
 (.c (!(((zw c.qw h_1.toNat).kind:Int)==2))
 (.c (!(((zw c.qw h_1.toNat).qy:Int)==0))
 (.r 415)
 (.b (zeC c h_1) fun r1=>
 .c (!((r1.1:Int)==1))
 (.r 416)
 (.c (((zw c.qw h_1.toNat).kind:Int)==2)
 (.c (!((r1.2:Int)==1))
 (.r 417)
 (.c (!(((zw c.qw h_1.toNat).kind:Int)==2))
 (.c (!(zaQ r1.2 1 4))
 (.r 417)
 (.r 0))
 (.r 0)))
 (.c (!(((zw c.qw h_1.toNat).kind:Int)==2))
 (.c (!(zaQ r1.2 1 4))
 (.r 417)
 (.r 0))
 (.r 0)))))
 (.b (zeC c h_1) fun r2=>
 .c (!((r2.1:Int)==1))
 (.r 416)
 (.c (((zw c.qw h_1.toNat).kind:Int)==2)
 (.c (!((r2.2:Int)==1))
 (.r 417)
 (.c (!(((zw c.qw h_1.toNat).kind:Int)==2))
 (.c (!(zaQ r2.2 1 4))
 (.r 417)
 (.r 0))
 (.r 0)))
 (.c (!(((zw c.qw h_1.toNat).kind:Int)==2))
 (.c (!(zaQ r2.2 1 4))
 (.r 417)
 (.r 0))
 (.r 0))))))
 (.c (!(((zw c.qw h_1.toNat).kind:Int)==2))
 (.c (!(((zw c.qw h_1.toNat).qy:Int)==0))
 (.r 415)
 (.b (zeC c h_1) fun r3=>
 .c (!((r3.1:Int)==1))
 (.r 416)
 (.c (((zw c.qw h_1.toNat).kind:Int)==2)
 (.c (!((r3.2:Int)==1))
 (.r 417)
 (.c (!(((zw c.qw h_1.toNat).kind:Int)==2))
 (.c (!(zaQ r3.2 1 4))
 (.r 417)
 (.r 0))
 (.r 0)))
 (.c (!(((zw c.qw h_1.toNat).kind:Int)==2))
 (.c (!(zaQ r3.2 1 4))
 (.r 417)
 (.r 0))
 (.r 0)))))
 (.b (zeC c h_1) fun r4=>
 .c (!((r4.1:Int)==1))
 (.r 416)
 (.c (((zw c.qw h_1.toNat).kind:Int)==2)
 (.c (!((r4.2:Int)==1))
 (.r 417)
 (.c (!(((zw c.qw h_1.toNat).kind:Int)==2))
 (.c (!(zaQ r4.2 1 4))
 (.r 417)
 (.r 0))
 (.r 0)))
 (.c (!(((zw c.qw h_1.toNat).kind:Int)==2))
 (.c (!(zaQ r4.2 1 4))
 (.r 417)
 (.r 0))
 (.r 0))))))))
 (.c (!(zaQ ((zw c.qw h_1.toNat).qx) 1 16))
 (.r 415)
 (.c (((zw c.qw h_1.toNat).kind:Int)==2)
 (.c (!(zaQ ((zw c.qw h_1.toNat).qy) 1 8))
 (.r 415)
 (.c (!(((zw c.qw h_1.toNat).kind:Int)==2))
 (.c (!(((zw c.qw h_1.toNat).qy:Int)==0))
 (.r 415)
 (.b (zeC c h_1) fun r5=>
 .c (!((r5.1:Int)==1))
 (.r 416)
 (.c (((zw c.qw h_1.toNat).kind:Int)==2)
 (.c (!((r5.2:Int)==1))
 (.r 417)
 (.c (!(((zw c.qw h_1.toNat).kind:Int)==2))
 (.c (!(zaQ r5.2 1 4))
 (.r 417)
 (.r 0))
 (.r 0)))
 (.c (!(((zw c.qw h_1.toNat).kind:Int)==2))
 (.c (!(zaQ r5.2 1 4))
 (.r 417)
 (.r 0))
 (.r 0)))))
 (.b (zeC c h_1) fun r6=>
 .c (!((r6.1:Int)==1))
 (.r 416)
 (.c (((zw c.qw h_1.toNat).kind:Int)==2)
 (.c (!((r6.2:Int)==1))
 (.r 417)
 (.c (!(((zw c.qw h_1.toNat).kind:Int)==2))
 (.c (!(zaQ r6.2 1 4))
 (.r 417)
 (.r 0))
 (.r 0)))
 (.c (!(((zw c.qw h_1.toNat).kind:Int)==2))
 (.c (!(zaQ r6.2 1 4))
 (.r 417)
 (.r 0))
 (.r 0))))))
 (.c (!(((zw c.qw h_1.toNat).kind:Int)==2))
 (.c (!(((zw c.qw h_1.toNat).qy:Int)==0))
 (.r 415)
 (.b (zeC c h_1) fun r7=>
 .c (!((r7.1:Int)==1))
 (.r 416)
 (.c (((zw c.qw h_1.toNat).kind:Int)==2)
 (.c (!((r7.2:Int)==1))
 (.r 417)
 (.c (!(((zw c.qw h_1.toNat).kind:Int)==2))
 (.c (!(zaQ r7.2 1 4))
 (.r 417)
 (.r 0))
 (.r 0)))
 (.c (!(((zw c.qw h_1.toNat).kind:Int)==2))
 (.c (!(zaQ r7.2 1 4))
 (.r 417)
 (.r 0))
 (.r 0)))))
 (.b (zeC c h_1) fun r8=>
 .c (!((r8.1:Int)==1))
 (.r 416)
 (.c (((zw c.qw h_1.toNat).kind:Int)==2)
 (.c (!((r8.2:Int)==1))
 (.r 417)
 (.c (!(((zw c.qw h_1.toNat).kind:Int)==2))
 (.c (!(zaQ r8.2 1 4))
 (.r 417)
 (.r 0))
 (.r 0)))
 (.c (!(((zw c.qw h_1.toNat).kind:Int)==2))
 (.c (!(zaQ r8.2 1 4))
 (.r 417)
 (.r 0))
 (.r 0)))))))
theorem zOF(c:za)(h_1:Int):Oks 86 [.agg (Ty.enc .sConfig c),(zg h_1)] [] (zwn c h_1) to86:=zM GC0 (H:=H0) zJ Tryz.func86 rfl (by kernel_rfl) (fun J=>by kernel_rfl)
abbrev zyS:=zx
def zPY(r:zyS):Ans:=⟨.agg [(zg r.e),(zg r.where_.first),(zg r.where_.second)],[]⟩
inductive zwM where | l11 (x0:Bool) (x1:Int)
def H123:zab:=htt [5] [(11,⟨fgt [1,2,4,5,6,7] 57 0,[]⟩)] []
def zO9(c:za)(h_1:Int):zwM->Nat × St | .l11 x0 x1=>(11,⟨mkE [(1,(zg h_1)),(2,.ref 0 0),(4,.ref 1 0),(5,.ref 2 0),(6,(avB x0)),(7,(zg x1))] 57 0,[.cells 26 (Ty.enc .sConfig c),.cells 194 [(zg 0),(zg 0),(zg 0)],.cells 76 (Ty.enc .sChannel (zw c.qw h_1.toNat))],GL,0,[],zN⟩)
def ztT(c:za)(h_1:Int):zwM->Tree zwM zyS | .l11 x0 x1 =>let y1:=za3 h_1;let y2:=zw c.qw h_1.toNat;let y3:=zag false 415 y1;.b (zrc c h_1) fun r1=>.c (za1 (y2.kind) 1 2) (.c (za1 (y2.qx) 1 16) (.b (zbz [(zag x0 415 y1),(zag ((r1.1:Int)==1) 416 y1),(zag (za1 r1.2 1 x1) 417 y1)]) fun r2=>.r r2) (.b (zbz [y3,(zag ((r1.1:Int)==1) 416 y1),(zag (za1 r1.2 1 x1) 417 y1)]) fun r3=>.r r3)) (.b (zbz [y3,(zag ((r1.1:Int)==1) 416 y1),(zag (za1 r1.2 1 x1) 417 y1)]) fun r4=>.r r4)
def zz2(c:za)(h_1:Int):Tree zwM zyS:=.g (zO h_1 c.qw.length) <| .c (((zw c.qw h_1.toNat).kind:Int)==2) (.j (.l11 (za1 ((zw c.qw h_1.toNat).qy) 1 8) 1)) (.j (.l11 (((zw c.qw h_1.toNat).qy:Int)==0) 4))
def zkh(c:za)(h_1:Int):zwM->Option zyS:=zal (ztT c h_1)
theorem zyl(c:za)(h_1:Int)(l:zwM):zkh c h_1 l=(ztT c h_1 l).run (zkh c h_1):=zE _ l
def zq3(c:za)(h_1:Int):Option zyS:=(zz2 c h_1).run (zkh c h_1)
theorem zIk(c:za)(h_1:Int):Oks 123 [.agg (Ty.enc .sConfig c),(zg h_1)] [] (zq3 c h_1) zPY:=zL GC0 (H:=H123) zJ Tryz.func123 rfl (by kernel_rfl) (zO9 c h_1) (fun J l=>by cases l <;> kernel_rfl) (fun J=>by kernel_rfl)
abbrev R83:=Int
def to83(r:R83):Ans:=⟨(zg r),[]⟩
def zyf(c:za):R83:=Tree.val (L:=Empty) <|
 .c (!(zaQ c.qr 1 1024))
 (.r 400)
 (.c (!(zaQ c.major 1 16384))
 (.r 401)
 (.c (!(zaQ c.qp.length 1 4))
 (.r 402)
 (.c (!(zaQ c.qq.length 1 8))
 (.r 403)
 (.c (decide ((c.qw.length:Int)>16))
 (.r 404)
 (.r 0)))))
theorem zOC(c:za):Oks 83 [.agg (Ty.enc .sConfig c)] [] (some (zyf c)) to83:=zbx GC0 (H:=H0) zJ Tryz.func83 rfl (by kernel_rfl) rfl (fun J=>by kernel_rfl)
abbrev R230:=(List Int) × Bool
def zQQ(r:R230):Ans:=⟨.tup [.own 0,(avB r.2)],[.arr 46 (.i .u32) r.1]⟩
def H230:zab:=⟨fun _=>false,fun _=>⟨[],[]⟩,[(.slot 0,.own 46 (.i .u32))],G0,zN⟩
def znx(l_0:(List Int))(head:Int):Option R230:=Tree.run0 <|
 .b (zuN l_0) fun r1=>
 .c r1
 (.r ([],true))
 (.g (zO 0 l_0.length) <|
 .c (!((zt l_0 0:Int)==1))
 (.r ([],false))
 (.c ((head:Int)==3)
 (.g (zO 1 l_0.length) <|
 .c (decide ((zt l_0 1:Int)>1))
 (.r ([],false))
 (.b (znz l_0 head) fun r2=>
 .r (r2.1,r2.2)))
 (.b (znz l_0 head) fun r3=>
 .r (r3.1,r3.2))))
theorem zJB(l_0:(List Int))(head:Int):Oks 230 [.sl (.i .u32) l_0,(zg head)] [] (znx l_0 head) zQQ:=zM GC0 (H:=H230) zJ Tryz.func230 rfl (by kernel_rfl) (fun J=>by kernel_rfl)
abbrev R44:=Int × Int × Bool
def to44(r:R44):Ans:=⟨.tup [(zg r.1),(zg r.2.1),(avB r.2.2)],[]⟩
def znD(d:(Option zG))(p:Int)(port:Int):Option R44:=Tree.run0 <|
 .b (zhL d p port) fun r1=>
 .c (!r1.2)
 (.r (0,0,false))
 (.g d.isSome <|
 .g (zO r1.1.ql ((d.getD default).lay.qw).length) <|
 .r (r1.1.ql,(zH ((d.getD default).lay.qw) r1.1.ql.toNat).lock,true))
theorem zNZ(d:(Option zG))(p:Int)(port:Int):Oks 44 [.op .sDuctDucts d,(zg p),(zg port)] [] (znD d p port) to44:=zM GC0 (H:=H0) zJ Tryz.func44 rfl (by kernel_rfl) (fun J=>by kernel_rfl)
abbrev R59:=Int
def to59(r:R59):Ans:=⟨(zg r),[]⟩
def zlj(d:(Option zG))(m:(Option ze)):Option R59:=Tree.run0 <|
 .c d.isNone
 (.r 3)
 (.c m.isNone
 (.r 3)
 (.b (zdJ m) fun r1=>
 .g d.isSome <|
 .c (!((r1:Int)==(d.getD default).c.qr))
 (.r 210)
 (.r 0)))
theorem zOe(d:(Option zG))(m:(Option ze)):Oks 59 [.op .sDuctDucts d,.op .sMemMemory m] [] (zlj d m) to59:=zM GC0 (H:=H0) zJ Tryz.func59 rfl (by kernel_rfl) (fun J=>by kernel_rfl)
abbrev R111:=Int
def zPL(r:R111):Ans:=⟨(zg r),[]⟩
def zo9(h_0:zI):R111:=Tree.val (L:=Empty) <|
 .c (((zmV h_0):Int)==0)
 (.r 0)
 (.c ((h_0.kind:Int)==1)
 (.r (i64.wrap (2+h_0.qx)))
 (.r (i64.wrap (1+(zmV h_0)))))
theorem zIf(h_0:zI):Oks 111 [.agg (Ty.enc .sChannel h_0)] [] (some (zo9 h_0)) zPL:=zbx GC0 (H:=H0) zJ Tryz.func111 rfl (by kernel_rfl) rfl (fun J=>by kernel_rfl)
abbrev zxk:=Int × ze
def zFF(r:zxk):Ans:=⟨(zg r.1),[.cells 112 [.own 1],.arr 46 (.i .u32) r.2.qx]⟩
inductive zwH where | l9 (v0:R43) (x0:List Int)
def H103:zab:=htt [4] [(9,⟨fgt [7] 21 0,[]⟩)] []
def zO4(pl:Int)(word:Int)(ws:List Int):zwH->Nat × St | .l9 v0 x0=>(9,⟨mkE [(7,(zg v0))] 21 0,[.cells 112 [.own 1],.arr 46 (.i .u32) x0],GL,2,[],zN⟩)
def ztS(pl:Int)(word:Int)(ws:List Int):zwH->Tree zwH zxk | .l9 v0 x0=>.r (v0,(⟨x0⟩:ze))
def zzZ(pl:Int)(word:Int)(ws:List Int):Tree zwH zxk:=.b (zfu (some (⟨ws⟩:ze)) pl 1) fun r1=>.c ((r1:Int)==0) (.g (zO pl ws.length) <| .j (.l9 r1 (List.set ws pl.toNat word))) (.j (.l9 r1 ws))
def zuG(pl:Int)(word:Int)(ws:List Int):zwH->Option zxk:=zal (ztS pl word ws)
theorem zyk(pl:Int)(word:Int)(ws:List Int)(l:zwH):zuG pl word ws l=(ztS pl word ws l).run (zuG pl word ws):=zE _ l
def zdP(pl:Int)(word:Int)(ws:List Int):Option zxk:=(zzZ pl word ws).run (zuG pl word ws)
theorem zH7(pl:Int)(word:Int)(ws:List Int):Oks 103 [.ref 0 0,(zg pl),(zu word)] [.cells 112 [.own 1],.arr 46 (.i .u32) ws] (zdP pl word ws) zFF:=zL GC0 (H:=H103) zJ Tryz.func103 rfl (by kernel_rfl) (zO4 pl word ws) (fun J l=>by cases l <;> kernel_rfl) (fun J=>by kernel_rfl)
abbrev R11:=(List Int)
def to11(r:R11):Ans:=⟨.own 0,[.arr 46 (.i .u32) r]⟩
def H11:zab:=⟨fun _=>false,fun _=>⟨[],[]⟩,[(.slot 0,.own 46 (.i .u32))],G0,zN⟩
def zjs(m:(Option ze)):Option R11:=Tree.run0 <|
 .c m.isNone
 (.r [])
 (.g m.isSome <|
 .b (zgS ((m.getD default).qx)) fun r1=>
 .r r1)
theorem zNx(m:(Option ze)):Oks 11 [.op .sMemMemory m] [] (zjs m) to11:=zM GC0 (H:=H11) zJ Tryz.func11 rfl (by kernel_rfl) (fun J=>by kernel_rfl)
abbrev R116:=zx
def zPQ(r:R116):Ans:=⟨.agg [(zg r.e),(zg r.where_.first),(zg r.where_.second)],[]⟩
def zFx(a:za):R116:=(zag (za1 a.major 1 16384) 401 nowhere)
theorem zBj(a:za):Oks 116 [.op .sConfig (some a)] [] (some (zFx a)) zPQ:=zbj GC0 (H:=H0) zJ Tryz.func116 rfl (by kernel_rfl) (fun J=>by kernel_rfl)
abbrev R76:=Bool
def to76(r:R76):Ans:=⟨(avB r),[]⟩
inductive L76 where | l0 (x0:Int) | l4 (x0:Int)
def H76:zab:=htt [] [(0,⟨fgt [1,30,31,32] 82 0,[]⟩),(4,⟨fgt [1,42,43,44] 82 0,[]⟩)] []
def st76(c:za):L76->Nat × St | .l0 x0=>(0,⟨mkE [(1,.ref 0 0),(30,.sl .sPartition c.qq),(31,(zg c.qq.length)),(32,(zg x0))] 82 0,[.cells 26 (Ty.enc .sConfig c)],GL,0,[],zN⟩) | .l4 x0=>(4,⟨mkE [(1,.ref 0 0),(42,.sl .sChannel c.qw),(43,(zg c.qw.length)),(44,(zg x0))] 82 0,[.cells 26 (Ty.enc .sConfig c)],GL,0,[],zN⟩)
def zol(c:za):L76->Tree L76 R76 | .l0 x0=>.c (decide (x0<c.qq.length)) (.g (zO x0 c.qq.length) <| .b (znj c (zb c.qq x0.toNat)) fun r1=>.c (!r1) (.r false) (.j (.l0 (i64.wrap (x0+1))))) (.j (.l4 0)) | .l4 x0 =>let y1:=zw c.qw x0.toNat;let y2:=i64.wrap (x0+1);.c (decide (x0<c.qw.length)) (.g (zO x0 c.qw.length) <| .b (zpy c x0) fun r2=>.c (((zqQ y1):Int)==0) (.r false) (.c ((y1.kind:Int)==1) (.c (!((y1.qy:Int)==0)) (.r false) (.c (!((r2.1.length:Int)==1)) (.r false) (.c (decide ((r2.2.length:Int)<1)) (.r false) (.c (decide ((r2.2.length:Int)>4)) (.r false) (.j (.l4 y2)))))) (.c (!((r2.1.length:Int)==1)) (.r false) (.c (decide ((r2.2.length:Int)<1)) (.r false) (.c (decide ((r2.2.length:Int)>4)) (.r false) (.j (.l4 y2))))))) (.r true)
def zE9(c:za):Tree L76 R76:=.c (decide ((c.kernel:Int)<0)) (.r false) (.c (decide ((c.kernel:Int)>=1024)) (.r false) (.c (decide ((c.qq.length:Int)>8)) (.r false) (.c (decide ((c.qw.length:Int)>16)) (.r false) (.j (.l0 0)))))
def zs6(c:za):L76->Option R76:=zal (zol c)
theorem zjl(c:za)(l:L76):zs6 c l=(zol c l).run (zs6 c):=zE _ l
def ztp(c:za):Option R76:=(zE9 c).run (zs6 c)
theorem zOv(c:za):Oks 76 [.agg (Ty.enc .sConfig c)] [] (ztp c) to76:=zL GC0 (H:=H76) zJ Tryz.func76 rfl (by kernel_rfl) (st76 c) (fun J l=>by cases l <;> kernel_rfl) (fun J=>by kernel_rfl)
abbrev zyT:=zx
def zP0(r:zyT):Ans:=⟨.agg [(zg r.e),(zg r.where_.first),(zg r.where_.second)],[]⟩
inductive zwN where | l0 (x0:Int) (x1:Int)
def H125:zab:=htt [] [(0,⟨fgt [1,2,4,5,24,25,26] 85 0,[]⟩)] []
def zPa(c:za)(k:Int):zwN->Nat × St | .l0 x0 x1=>(0,⟨mkE [(1,(zg k)),(2,.ref 0 0),(4,.ref 1 0),(5,(zg x0)),(24,.sl .sWindow (zD c.qp k.toNat)),(25,(zg ((zD c.qp k.toNat).length))),(26,(zg x1))] 85 0,[.cells 26 (Ty.enc .sConfig c),.cells 194 [(zg 0),(zg 0),(zg 0)]],GL,0,[],zN⟩)
def zp2(c:za)(k:Int):zwN->Tree zwN zyT | .l0 x0 x1 =>let y3:=zD c.qp k.toNat;let y1:=zbC y3 x1.toNat;let y2:=i64.wrap (x0+(i64.wrap (y1.qm+y1.qQ)));let y4:=zdI k x1;let y5:=zag (za1 (y1.qQ) 82 16384) 420 y4;let y6:=zno c k (y1.qk);let y7:=i64.wrap (x1+1);.c (decide (x1<y3.length)) (.g (zO x1 y3.length) <| .c (za1 (y1.qk) (-1) (i64.wrap (c.qq.length-1))) (.b y6 fun r1=>.b (zbz [(zag (za1 (y1.qm) 1 16384) 419 y4),y5,(zag (!r1) 422 y4)]) fun r2=>.c (!(((r2.e:Int)==fine.e)&&((((r2.where_.first:Int)==fine.where_.first)&&(((r2.where_.second:Int)==fine.where_.second)&&true))&&true))) (.r r2) (.j (.l0 y2 y7))) (.b y6 fun r3=>.b (zbz [(zag false 419 y4),y5,(zag (!r3) 422 y4)]) fun r4=>.c (!(((r4.e:Int)==fine.e)&&((((r4.where_.first:Int)==fine.where_.first)&&(((r4.where_.second:Int)==fine.where_.second)&&true))&&true))) (.r r4) (.j (.l0 y2 y7)))) (.r (zag (x0==c.major) 421 (za3 k)))
def zz3(c:za)(k:Int):Tree zwN zyT:=.g (zO k c.qp.length) <| .c (!(za1 ((zD c.qp k.toNat).length) 1 16)) (.r (⟨418,(za3 k)⟩:zx)) (.g (zO k c.qp.length) <| .j (.l0 0 0))
def zqR(c:za)(k:Int):zwN->Option zyT:=zal (zp2 c k)
theorem zpc(c:za)(k:Int)(l:zwN):zqR c k l=(zp2 c k l).run (zqR c k):=zE _ l
def zq5(c:za)(k:Int):Option zyT:=(zz3 c k).run (zqR c k)
theorem zIl(c:za)(k:Int):Oks 125 [.agg (Ty.enc .sConfig c),(zg k)] [] (zq5 c k) zP0:=zL GC0 (H:=H125) zJ Tryz.func125 rfl (by kernel_rfl) (zPa c k) (fun J l=>by cases l <;> kernel_rfl) (fun J=>by kernel_rfl)
abbrev R92:=zaw
def to92(r:R92):Ans:=⟨.tup [],[.cells 232 (Ty.enc .sBulkheadref22Devices r)]⟩
inductive L92 where | l0 (x0:Bool) (x1:Int) (x2:List z7) | l25 (x0:Bool) (x1:Int) (x2:List z7) | l31 (x0:List z7)
def H92:zab:=htt [12,15] [(0,⟨fgt [0,5,6,7,8] 65 0,[(.slot 6,.own 85 .sFeed),(.box 5 2,.sl (.i .u32))]⟩),(25,⟨fgt [0,5,6,7,8] 65 0,[(.slot 6,.own 85 .sFeed),(.box 5 2,.sl (.i .u32))]⟩),(31,⟨fgt [0,6] 65 0,[]⟩)] [(.box 0 11,.sl .sFeed)]
def st92(f:z7)(c:za)(lay:zaR)(fs:(List z7)):L92->Nat × St | .l0 x0 x1 x2=>(0,⟨mkE [(0,.ref 0 0),(5,.ref 1 0),(6,.own 2),(7,(avB x0)),(8,(zg x1))] 65 0,[.cells 232 [(zg c.qr),(zg c.major),(zg c.kernel),(zg c.room),.sl (.sl .sWindow) c.qp,.sl .sPartition c.qq,.sl .sChannel c.qw,(zg lay.barrier),.sl .sPartitionPlace lay.qq,.sl .sChannelPlace lay.qw,(zg lay.end_),.sl .sFeed fs],.cells 85 [(zg f.qk),(zg f.qu),.sl (.i .u32) (([]:List Int)++f.qx)],.arr 85 .sFeed x2],GL,1,[],zN⟩) | .l25 x0 x1 x2=>(25,⟨mkE [(0,.ref 0 0),(5,.ref 1 0),(6,.own 2),(7,(avB x0)),(8,(zg x1))] 65 0,[.cells 232 [(zg c.qr),(zg c.major),(zg c.kernel),(zg c.room),.sl (.sl .sWindow) c.qp,.sl .sPartition c.qq,.sl .sChannel c.qw,(zg lay.barrier),.sl .sPartitionPlace lay.qq,.sl .sChannelPlace lay.qw,(zg lay.end_),.sl .sFeed fs],.cells 85 [(zg f.qk),(zg f.qu),.sl (.i .u32) (([]:List Int)++f.qx)],.arr 85 .sFeed x2],GL,1,[],zN⟩) | .l31 x0=>(31,⟨mkE [(0,.ref 0 0),(6,.own 1)] 65 0,[.cells 232 [(zg c.qr),(zg c.major),(zg c.kernel),(zg c.room),.sl (.sl .sWindow) c.qp,.sl .sPartition c.qq,.sl .sChannel c.qw,(zg lay.barrier),.sl .sPartitionPlace lay.qq,.sl .sChannelPlace lay.qw,(zg lay.end_),.sl .sFeed fs],.arr 85 .sFeed x0],GL,1,[],zN⟩)
def zoq(f:z7)(c:za)(lay:zaR)(fs:(List z7)):L92->Tree L92 R92 | .l0 x0 x1 x2 =>let y1:=(⟨f.qk,f.qu,(([]:List Int)++f.qx)⟩:z7);let y3:=(x2:List z7);let y2:=(leB ((y3.length+([y1]:List z7).length)*40) 140737488355328);.c (decide (x1<fs.length)) (.c (!x0) (.g (zO x1 fs.length) <| .c (zBZ y1 (zA fs x1.toNat)) (.g y2 <| .j (.l25 true x1 (y3++[y1]))) (.j (.l25 x0 x1 x2))) (.j (.l25 x0 x1 x2))) (.c (!x0) (.g y2 <| .j (.l31 (y3++[y1]))) (.j (.l31 x2))) | .l25 x0 x1 x2 =>let y1:=zA fs x1.toNat;.g (zO x1 fs.length) <| .g (leB (((x2:List z7).length+([y1]:List z7).length)*40) 140737488355328) <| .j (.l0 x0 (i64.wrap (x1+1)) ((x2:List z7)++[y1])) | .l31 x0=>.r (⟨c,lay,x0⟩:zaw)
def zFe(f:z7)(c:za)(lay:zaR)(fs:(List z7)):Tree L92 R92:=.g (leB ((([]:List Int).length+(f.qx:List Int).length)*4) 140737488355328) <| .j (.l0 false 0 [])
def zpt(f:z7)(c:za)(lay:zaR)(fs:(List z7)):L92->Option R92:=zal (zoq f c lay fs)
theorem zjr(f:z7)(c:za)(lay:zaR)(fs:(List z7))(l:L92):zpt f c lay fs l=(zoq f c lay fs l).run (zpt f c lay fs):=zE _ l
def ztr(f:z7)(c:za)(lay:zaR)(fs:(List z7)):Option R92:=(zFe f c lay fs).run (zpt f c lay fs)
theorem zOL(f:z7)(c:za)(lay:zaR)(fs:(List z7)):Oks 92 [.ref 0 0,.agg (Ty.enc .sFeed f)] [.cells 232 [(zg c.qr),(zg c.major),(zg c.kernel),(zg c.room),.sl (.sl .sWindow) c.qp,.sl .sPartition c.qq,.sl .sChannel c.qw,(zg lay.barrier),.sl .sPartitionPlace lay.qq,.sl .sChannelPlace lay.qw,(zg lay.end_),.sl .sFeed fs]] (ztr f c lay fs) to92:=zL GC0 (H:=H92) zJ Tryz.func92 rfl (by kernel_rfl) (st92 f c lay fs) (fun J l=>by cases l <;> kernel_rfl) (fun J=>by kernel_rfl)
abbrev zGx:=zX × Int × ze
def zFP(r:zGx):Ans:=⟨.tup [.agg [(zg r.1.place.lock),(zg r.1.place.save),(zg r.1.place.state),(zg r.1.place.root),.sl (.i .i64) r.1.place.qs,(zu r.1.entry),(zu r.1.most),(zu r.1.outs),.any,.any],(zg r.2.1)],[.cells 112 [.own 1],.arr 46 (.i .u32) r.2.2.qx]⟩
def H167:zab:=⟨fun _=>false,fun _=>⟨[],[]⟩,[(.cell 0 4,.sl (.i .i64)),(.cell 0 8,.un),(.cell 0 9,.un)],G0,zN⟩
def znr(w:(Option zae))(p:Int)(odd:Bool)(ws:List Int):Option zGx:=Tree.run0 <|
 .c w.isNone
 (.r ((⟨(⟨0,0,0,0,[]⟩:zk),0,0,0,(⟨(),()⟩:zay)⟩:zX),3,(⟨ws⟩:ze)))
 (.b (zdJ (some (⟨ws⟩:ze))) fun r1=>
 .g w.isSome <|
 .c (!((r1:Int)==(w.getD default).qr))
 (.r ((⟨(⟨0,0,0,0,[]⟩:zk),0,0,0,(⟨(),()⟩:zay)⟩:zX),1,(⟨ws⟩:ze)))
 (.c odd
 (.r ((⟨(⟨0,0,0,0,[]⟩:zk),0,0,0,(⟨(),()⟩:zay)⟩:zX),1,(⟨ws⟩:ze)))
 (.c (decide ((p:Int)<0))
 (.r ((⟨(⟨0,0,0,0,[]⟩:zk),0,0,0,(⟨(),()⟩:zay)⟩:zX),230,(⟨ws⟩:ze)))
 (.g w.isSome <|
 .c (decide ((p:Int)>=((w.getD default).qh).length))
 (.r ((⟨(⟨0,0,0,0,[]⟩:zk),0,0,0,(⟨(),()⟩:zay)⟩:zX),230,(⟨ws⟩:ze)))
 (.g w.isSome <|
 .g (zO p ((w.getD default).qh).length) <|
 .r ((⟨(zaC ((w.getD default).qh) p.toNat).place,(zaC ((w.getD default).qh) p.toNat).entry,(zaC ((w.getD default).qh) p.toNat).most,(zaC ((w.getD default).qh) p.toNat).outs,(⟨(),()⟩:zay)⟩:zX),0,(⟨ws⟩:ze)))))))
theorem zIW(w:(Option zae))(p:Int)(odd:Bool)(ws:List Int):Oks 167 [.op .sHealthWards w,.ref 0 0,(zg p),(avB odd)] [.cells 112 [.own 1],.arr 46 (.i .u32) ws] (znr w p odd ws) zFP:=zM GC0 (H:=H167) zJ Tryz.func167 rfl (by kernel_rfl) (fun J=>by kernel_rfl)
abbrev zy2:=Int
def zQf(r:zy2):Ans:=⟨(zg r),[]⟩
inductive zwW where | l0 (x0:Int)
def H147:zab:=htt [] [(0,⟨fgt [0,1,15,16,17] 40 0,[]⟩)] []
def zPj(d:(Option zR))(m:(Option ze))(qq:(List Int)):zwW->Nat × St | .l0 x0=>(0,⟨mkE [(0,.op .sDeviceDevices d),(1,.op .sMemMemory m),(15,.sl (.i .i64) qq),(16,(zg qq.length)),(17,(zg x0))] 40 0,[],GL,0,[],zN⟩)
def zp5(d:(Option zR))(m:(Option ze))(qq:(List Int)):zwW->Tree zwW zy2 | .l0 x0 =>let y1:=(zt qq x0.toNat:Int);.c (decide (x0<qq.length)) (.g (zO x0 qq.length) <| .c (decide (y1<0)) (.r 1) (.g d.isSome <| .c (decide (y1>=((d.getD default).at_).length)) (.r 1) (.j (.l0 (i64.wrap (x0+1)))))) (.b (zdJ m) fun r1=>.g d.isSome <| .c (!((r1:Int)==(d.getD default).qr)) (.r 1) (.r 0))
def zz9(d:(Option zR))(m:(Option ze))(qq:(List Int)):Tree zwW zy2:=.c d.isNone (.r 3) (.c m.isNone (.r 3) (.j (.l0 0)))
def zuH(d:(Option zR))(m:(Option ze))(qq:(List Int)):zwW->Option zy2:=zal (zp5 d m qq)
theorem zpf(d:(Option zR))(m:(Option ze))(qq:(List Int))(l:zwW):zuH d m qq l=(zp5 d m qq l).run (zuH d m qq):=zE _ l
def zra(d:(Option zR))(m:(Option ze))(qq:(List Int)):Option zy2:=(zz9 d m qq).run (zuH d m qq)
theorem zIC(d:(Option zR))(m:(Option ze))(qq:(List Int)):Oks 147 [.op .sDeviceDevices d,.op .sMemMemory m,.sl (.i .i64) qq] [] (zra d m qq) zQf:=zL GC0 (H:=H147) zJ Tryz.func147 rfl (by kernel_rfl) (zPj d m qq) (fun J l=>by cases l <;> kernel_rfl) (fun J=>by kernel_rfl)
abbrev zy6:=Bool
def zQl(r:zy6):Ans:=⟨(avB r),[]⟩
inductive zw0 where | l0 (x0:Int)
def H153:zab:=htt [] [(0,⟨fgt [1,6,7,8] 31 0,[]⟩)] []
def zPn(x:zf):zw0->Nat × St | .l0 x0=>(0,⟨mkE [(1,.ref 0 0),(6,.sl .sRegion x.qe),(7,(zg x.qe.length)),(8,(zg x0))] 31 0,[.cells 72 (Ty.enc .sPartition x)],GL,0,[],zN⟩)
def zp8(x:zf):zw0->Tree zw0 zy6 | .l0 x0 =>let y1:=i64.wrap (x0+1);.c (decide (x0<x.qe.length)) (.g (zO x0 x.qe.length) <| .c (za1 (bop .quo .i64 x.entry 16) ((zi x.qe x0.toNat).page) (i64.wrap ((i64.wrap ((zi x.qe x0.toNat).page+(zi x.qe x0.toNat).qc))-1))) (.c (!(((bop .and .i64 ((zi x.qe x0.toNat).qv) 4):Int)==0)) (.r true) (.j (.l0 y1))) (.j (.l0 y1))) (.r false)
def zHu(x:zf):Tree zw0 zy6:=.j (.l0 0)
def zm2(x:zf):zw0->Option zy6:=zal (zp8 x)
theorem zpi(x:zf)(l:zw0):zm2 x l=(zp8 x l).run (zm2 x):=zE _ l
def znn(x:zf):Option zy6:=(zHu x).run (zm2 x)
theorem zII(x:zf):Oks 153 [.agg (Ty.enc .sPartition x)] [] (znn x) zQl:=zL GC0 (H:=H153) zJ Tryz.func153 rfl (by kernel_rfl) (zPn x) (fun J l=>by cases l <;> kernel_rfl) (fun J=>by kernel_rfl)
abbrev R66:=zaN × Int × zah
def to66(r:R66):Ans:=⟨.tup [.agg [(zu r.1.one),(zu r.1.two),(zu r.1.three)],(zg r.2.1)],[.cells 116 [.op .sCallsCalls r.2.2.calls,.ref 1 0,(zg r.2.2.p),(zg r.2.2.qu),(zu r.2.2.x.qz.e0),(zu r.2.2.x.qz.e1),(zu r.2.2.x.qz.e2),(zu r.2.2.x.qz.e3),(zu r.2.2.x.qz.e4),(zu r.2.2.x.qz.e5),(zu r.2.2.x.qz.e6),(zu r.2.2.x.qz.e7),(zu r.2.2.x.qz.e8),(zu r.2.2.x.qz.e9),(zu r.2.2.x.qz.e10),(zu r.2.2.x.qz.e11),(zu r.2.2.x.qz.e12),(zu r.2.2.x.qz.e13),(zu r.2.2.x.qz.e14),(zu r.2.2.x.qz.e15),(zu r.2.2.x.pC)],.cells 112 [.own 2],.arr 46 (.i .u32) ((r.2.2.m.getD default).qx)]⟩
def ztm(s:(Option zr))(p:Int)(qu:Int)(x:zB)(ws:List Int):Option R66:=Tree.run0 <|
 .g s.isSome <|
 .g (zO 1 16) <|
 .b (zqY ((s.getD default).qf) p qu x.qz.e1) fun r1=>
 .r ((⟨(u32.wrap r1.1),r1.2,0⟩:zaN),0,(⟨s,(some (⟨ws⟩:ze)),p,qu,x⟩:zah))
theorem zOl(s:(Option zr))(p:Int)(qu:Int)(x:zB)(ws:List Int):Oks 66 [.ref 0 0] [.cells 116 [.op .sCallsCalls s,.ref 1 0,(zg p),(zg qu),(zu x.qz.e0),(zu x.qz.e1),(zu x.qz.e2),(zu x.qz.e3),(zu x.qz.e4),(zu x.qz.e5),(zu x.qz.e6),(zu x.qz.e7),(zu x.qz.e8),(zu x.qz.e9),(zu x.qz.e10),(zu x.qz.e11),(zu x.qz.e12),(zu x.qz.e13),(zu x.qz.e14),(zu x.qz.e15),(zu x.pC)],.cells 112 [.own 2],.arr 46 (.i .u32) ws] (ztm s p qu x ws) to66:=zM GC0 (H:=H0) zJ Tryz.func66 rfl (by kernel_rfl) (fun J=>by kernel_rfl)
abbrev zC4:=(List Int) × Int
def zQw(r:zC4):Ans:=⟨.tup [.own 0,(zg r.2)],[.arr 46 (.i .u32) r.1]⟩
def H168:zab:=⟨fun _=>false,fun _=>⟨[],[]⟩,[(.slot 0,.own 46 (.i .u32))],G0,zN⟩
def zc2(m:(Option ze))(at_1:Int)(n_2:Int):Option zC4:=Tree.run0 <|
 .b (zfu m at_1 n_2) fun r1=>
 .c (!((r1:Int)==0))
 (.r ([],r1))
 (.g (decide ((n_2:Int)=n_2)&&decide (0<=n_2)&&leB (n_2.toNat*4) 140737488355328) <|
 .g m.isSome <|
 .g (inS at_1 (((m.getD default).qx).length) ((m.getD default).qx).length) <|
 .r ((zcH (List.replicate n_2.toNat (0:Int)) 0 (List.take ((List.replicate n_2.toNat (0:Int)).length) (((((m.getD default).qx).take (((m.getD default).qx).length:Int).toNat).drop at_1.toNat):List Int))),0))
theorem zIX(m:(Option ze))(at_1:Int)(n_2:Int):Oks 168 [.op .sMemMemory m,(zg at_1),(zg n_2)] [] (zc2 m at_1 n_2) zQw:=zM GC0 (H:=H168) zJ Tryz.func168 rfl (by kernel_rfl) (fun J=>by kernel_rfl)
abbrev R58:=(List Int)
def to58(r:R58):Ans:=⟨.tup [],[.arr 46 (.i .u32) r]⟩
inductive L58 where | l0 (x0:Int) (x1:List Int)
def H58:zab:=htt [] [(0,⟨fgt [0,2,4,6] 22 0,[]⟩)] []
def st58(p:zf)(program:(List Int))(m:List Int):L58->Nat × St | .l0 x0 x1=>(0,⟨mkE [(0,.own 0),(2,.sl (.i .u32) program),(4,.ref 1 0),(6,(zg x0))] 22 0,[.arr 46 (.i .u32) x1,.cells 72 (Ty.enc .sPartition p)],GL,1,[],zN⟩)
def zvc(p:zf)(program:(List Int))(m:List Int):L58->Tree L58 R58 | .l0 x0 x1=>.c (decide (x0<program.length)) (.b (zpA p x0) fun r1=>.g (zO x0 program.length) <| .g (zO r1 x1.length) <| .j (.l0 (i64.wrap (x0+1)) (List.set x1 r1.toNat (zt program x0.toNat)))) (.r x1)
def zE2(p:zf)(program:(List Int))(m:List Int):Tree L58 R58:=.j (.l0 0 m)
def zsW(p:zf)(program:(List Int))(m:List Int):L58->Option R58:=zal (zvc p program m)
theorem zsX(p:zf)(program:(List Int))(m:List Int)(l:L58):zsW p program m l=(zvc p program m l).run (zsW p program m):=zE _ l
def zpx(p:zf)(program:(List Int))(m:List Int):Option R58:=(zE2 p program m).run (zsW p program m)
theorem zOd(p:zf)(program:(List Int))(m:List Int):Oks 58 [.own 0,.agg (Ty.enc .sPartition p),.sl (.i .u32) program] [.arr 46 (.i .u32) m] (zpx p program m) to58:=zL GC0 (H:=H58) zJ Tryz.func58 rfl (by kernel_rfl) (st58 p program m) (fun J l=>by cases l <;> kernel_rfl) (fun J=>by kernel_rfl)
abbrev R82:=zay
def to82(r:R82):Ans:=⟨.agg [.any,.any],[]⟩
def H82:zab:=⟨fun _=>false,fun _=>⟨[],[]⟩,[(.cell 0 0,.un),(.cell 0 1,.un)],G0,zN⟩
def sp82(p:zf):R82:=Tree.val (L:=Empty) <|
 .c ((p.action:Int)==0)
 (.r (⟨(),()⟩:zay))
 (.r (⟨(),()⟩:zay))
theorem zOB(p:zf):Oks 82 [.agg (Ty.enc .sPartition p)] [] (some (sp82 p)) to82:=zbx GC0 (H:=H82) zJ Tryz.func82 rfl (by kernel_rfl) rfl (fun J=>by kernel_rfl)
abbrev R60:=ze
def to60(r:R60):Ans:=⟨.ref 0 0,[.cells 112 [.own 1],.arr 46 (.i .u32) r.qx]⟩
def H60:zab:=⟨fun _=>false,fun _=>⟨[],[]⟩,[(.slot 0,.fnc)],G0,zN⟩
def zwj(m:(Option ze)):Option R60:=Tree.run0 <|
 .c m.isNone
 (.n)
 (.g m.isSome <|
 .b (zgS ((m.getD default).qx)) fun r1=>
 .r (⟨r1⟩:ze))
theorem zOf(m:(Option ze)):Oks 60 [.op .sMemMemory m] [] (zwj m) to60:=zM GC0 (H:=H60) zJ Tryz.func60 rfl (by kernel_rfl) (fun J=>by kernel_rfl)
abbrev R119:=zx
def zPT(r:R119):Ans:=⟨.agg [(zg r.e),(zg r.where_.first),(zg r.where_.second)],[]⟩
def zFA(a:za):R119:=(zag (decide ((a.qw.length:Int)<=16)) 404 nowhere)
theorem zBm(a:za):Oks 119 [.op .sConfig (some a)] [] (some (zFA a)) zPT:=zbj GC0 (H:=H0) zJ Tryz.func119 rfl (by kernel_rfl) (fun J=>by kernel_rfl)
abbrev R113:=zx
def zPN(r:R113):Ans:=⟨.agg [(zg r.e),(zg r.where_.first),(zg r.where_.second)],[]⟩
def zFw(a:za):R113:=(zag (za1 a.qr 1 1024) 400 nowhere)
theorem zBi(a:za):Oks 113 [.op .sConfig (some a)] [] (some (zFw a)) zPN:=zbj GC0 (H:=H0) zJ Tryz.func113 rfl (by kernel_rfl) (fun J=>by kernel_rfl)
def k7:Fk 7:=aF (aS .sBulkheadlaw25Start fun a0=>aE (oks7 a0))
def k11:Fk 11:=aF (aL (.p .sMemMemory) fun a0=>aE (zNx a0))
def k21:Fk 21:=aF (aL (.p .sMemMemory) fun a0=>aL (.i .i64) fun a1=>aE (zNE a0 a1))
def g28(args:List AV)(hp:List Blk):Option Rsp:=
 match args,hp with
 | [.agg [.v (.int .i64 y0),.v (.int .i64 y1),.v (.int .i64 y2),.v (.int .i64 y3),.own 0,.own 1,.own 2],a1],[.row 136 (.sl .sWindow) [(0,135)] [] y4,.row 72 .sPartition [(6,138),(7,74)] [] y5,.arr 76 .sChannel y6]=>(rdS .sConfig a1).bind fun b1=>some ⟨R28,(zlg y0 y1 y2 y3 b1 y4 y5 y6),to28,default⟩
 | _,_=>none
def k28:Fk 28:=⟨g28,fun args hp y h x hx=>by
 unfold g28 at h
 split at h
 . simp only[Option.bind_eq_some_iff]at h
   obtain ⟨b1,h1,h⟩:=h
   cases h;exact(zNL _ _ _ _ b1 _ _ _).ats (.cons (fun _ _ _ _ h=>h) (.cons (zcy h1) .nil)) hx
 . cases h⟩
def k31:Fk 31:=aF (aL (.sl (.i .u32)) fun a0=>aE (zNO a0))
def k39:Fk 39:=aF (aS .sConfig fun a0=>aS .sBulkheadlaw25Op fun a1=>aL (.i .u32) fun a2=>aL (.i .i64) fun a3=>aS .sOwner fun a4=>aE (zNW a0 a1 a2 a3 a4))
def k44:Fk 44:=aF (aL (.p .sDuctDucts) fun a0=>aL (.i .i64) fun a1=>aL (.i .i64) fun a2=>aE (zNZ a0 a1 a2))
def k56:Fk 56:=aF (aS .sPartition fun a0=>aL (.sl (.i .u32)) fun a1=>aE (zOb a0 a1))
def g57(args:List AV)(hp:List Blk):Option Rsp:=
 match args,hp with
 | [.own 0,a1,a2],[.arr 46 (.i .u32) y0]=>(rdS .sPartition a1).bind fun b1=>(rdS .sPartitionPlace a2).bind fun b2=>some ⟨R57,(zpw b1 b2 y0),to57,default⟩
 | _,_=>none
def k57:Fk 57:=⟨g57,fun args hp y h x hx=>by
 unfold g57 at h
 split at h
 . simp only[Option.bind_eq_some_iff]at h
   obtain ⟨b1,h1,b2,h2,h⟩:=h
   cases h;exact(zOc b1 b2 _).ats (.cons (fun _ _ _ _ h=>h) (.cons (zcy h1) (.cons (zcy h2) .nil))) hx
 . cases h⟩
def g58(args:List AV)(hp:List Blk):Option Rsp:=
 match args,hp with
 | [.own 0,a1,a2],[.arr 46 (.i .u32) y0]=>(rdS .sPartition a1).bind fun b1=>(rdL (.sl (.i .u32)) a2).bind fun b2=>some ⟨R58,(zpx b1 b2 y0),to58,default⟩
 | _,_=>none
def k58:Fk 58:=⟨g58,fun args hp y h x hx=>by
 unfold g58 at h
 split at h
 . simp only[Option.bind_eq_some_iff]at h
   obtain ⟨b1,h1,b2,h2,h⟩:=h
   cases h;exact(zOd b1 b2 _).ats (.cons (fun _ _ _ _ h=>h) (.cons (zcy h1) (.cons (z9 h2) .nil))) hx
 . cases h⟩
def k59:Fk 59:=aF (aL (.p .sDuctDucts) fun a0=>aL (.p .sMemMemory) fun a1=>aE (zOe a0 a1))
def k60:Fk 60:=aF (aL (.p .sMemMemory) fun a0=>aE (zOf a0))
def g66(args:List AV)(hp:List Blk):Option Rsp:=
 match args,hp with
 | [.ref 0 0],[.cells 116 [.op .sCallsCalls y0,.ref 1 0,.v (.int .i64 y1),.v (.int .i64 y2),.v (.int .u32 y3),.v (.int .u32 y4),.v (.int .u32 y5),.v (.int .u32 y6),.v (.int .u32 y7),.v (.int .u32 y8),.v (.int .u32 y9),.v (.int .u32 y10),.v (.int .u32 y11),.v (.int .u32 y12),.v (.int .u32 y13),.v (.int .u32 y14),.v (.int .u32 y15),.v (.int .u32 y16),.v (.int .u32 y17),.v (.int .u32 y18),.v (.int .u32 y19)],.cells 112 [.own 2],.arr 46 (.i .u32) y20]=>some ⟨R66,(ztm y0 y1 y2 (⟨(⟨y3,y4,y5,y6,y7,y8,y9,y10,y11,y12,y13,y14,y15,y16,y17,y18⟩:z6),y19⟩:zB) y20),to66,default⟩
 | _,_=>none
def k66:Fk 66:=⟨g66,fun args hp y h x hx=>by
 unfold g66 at h
 split at h
 . cases h;exact(zOl _ _ _ _ _).ats (.cons (fun _ _ _ _ h=>h) .nil) hx
 . cases h⟩
def k76:Fk 76:=aF (aS .sConfig fun a0=>aE (zOv a0))
def k77:Fk 77:=aF (aL (.i .i64) fun a0=>aE (zOw a0))
def k80:Fk 80:=aF (aS .sChannel fun a0=>aE (zOz a0))
def k82:Fk 82:=aF (aS .sPartition fun a0=>aE (zOB a0))
def k83:Fk 83:=aF (aS .sConfig fun a0=>aE (zOC a0))
def k86:Fk 86:=aF (aS .sConfig fun a0=>aL (.i .i64) fun a1=>aE (zOF a0 a1))
def k88:Fk 88:=aF (aS .sConfig fun a0=>aL (.i .i64) fun a1=>aE (zOH a0 a1))
def g92(args:List AV)(hp:List Blk):Option Rsp:=
 match args,hp with
 | [.ref 0 0,a1],[.cells 232 [.v (.int .i64 y0),.v (.int .i64 y1),.v (.int .i64 y2),.v (.int .i64 y3),.sl (.sl .sWindow) y4,.sl .sPartition y5,.sl .sChannel y6,.v (.int .i64 y7),.sl .sPartitionPlace y8,.sl .sChannelPlace y9,.v (.int .i64 y10),.sl .sFeed y11]]=>(rdS .sFeed a1).bind fun b1=>some ⟨R92,(ztr b1 (⟨y0,y1,y2,y3,y4,y5,y6⟩:za) (⟨y7,y8,y9,y10⟩:zaR) y11),to92,default⟩
 | _,_=>none
def k92:Fk 92:=⟨g92,fun args hp y h x hx=>by
 unfold g92 at h
 split at h
 . simp only[Option.bind_eq_some_iff]at h
   obtain ⟨b1,h1,h⟩:=h
   cases h;exact(zOL b1 _ _ _).ats (.cons (fun _ _ _ _ h=>h) (.cons (zcy h1) .nil)) hx
 . cases h⟩
def k98:Fk 98:=aF (aL (.p .sDuctDucts) fun a0=>aL (.i .i64) fun a1=>aL (.i .i64) fun a2=>aE (zOR a0 a1 a2))
def g103(args:List AV)(hp:List Blk):Option Rsp:=
 match args,hp with
 | [.ref 0 0,a1,a2],[.cells 112 [.own 1],.arr 46 (.i .u32) y0]=>(rdL (.i .i64) a1).bind fun b1=>(rdL (.i .u32) a2).bind fun b2=>some ⟨zxk,(zdP b1 b2 y0),zFF,default⟩
 | _,_=>none
def k103:Fk 103:=⟨g103,fun args hp y h x hx=>by
 unfold g103 at h
 split at h
 . simp only[Option.bind_eq_some_iff]at h
   obtain ⟨b1,h1,b2,h2,h⟩:=h
   cases h;exact(zH7 b1 b2 _).ats (.cons (fun _ _ _ _ h=>h) (.cons (z9 h1) (.cons (z9 h2) .nil))) hx
 . cases h⟩
def k109:Fk 109:=aF (aS .sChannel fun a0=>aE (zId a0))
def k111:Fk 111:=aF (aS .sChannel fun a0=>aE (zIf a0))
def k113:Fk 113:=aF (aP .sConfig fun a0=>aE (zBi a0))
def k116:Fk 116:=aF (aP .sConfig fun a0=>aE (zBj a0))
def k117:Fk 117:=aF (aP .sConfig fun a0=>aE (zBk a0))
def k118:Fk 118:=aF (aP .sConfig fun a0=>aE (zBl a0))
def k119:Fk 119:=aF (aP .sConfig fun a0=>aE (zBm a0))
def k123:Fk 123:=aF (aS .sConfig fun a0=>aL (.i .i64) fun a1=>aE (zIk a0 a1))
def k125:Fk 125:=aF (aS .sConfig fun a0=>aL (.i .i64) fun a1=>aE (zIl a0 a1))
def k135:Fk 135:=aF (aS .sConfig fun a0=>aL (.i .i64) fun a1=>aE (zIq a0 a1))
def k137:Fk 137:=aF (aS .sPartition fun a0=>aE (zIs a0))
def k147:Fk 147:=aF (aL (.p .sDeviceDevices) fun a0=>aL (.p .sMemMemory) fun a1=>aL (.sl (.i .i64)) fun a2=>aE (zIC a0 a1 a2))
def k150:Fk 150:=aF (aS .sConfig fun a0=>aL (.i .i64) fun a1=>aE (zIF a0 a1))
def k152:Fk 152:=aF (aS .sConfig fun a0=>aL (.i .i64) fun a1=>aL (.i .i64) fun a2=>aE (zIH a0 a1 a2))
def k153:Fk 153:=aF (aS .sPartition fun a0=>aE (zII a0))
def k160:Fk 160:=aF (aS .sConfig fun a0=>aS .sRegion fun a1=>aE (zIP a0 a1))
def k162:Fk 162:=aF (aL (.p .sMemMemory) fun a0=>aL (.i .i64) fun a1=>aE (zIR a0 a1))
def g167(args:List AV)(hp:List Blk):Option Rsp:=
 match args,hp with
 | [a0,.ref 0 0,a2,a3],[.cells 112 [.own 1],.arr 46 (.i .u32) y0]=>(rdL (.p .sHealthWards) a0).bind fun b0=>(rdL (.i .i64) a2).bind fun b2=>(rdL .b a3).bind fun b3=>some ⟨zGx,(znr b0 b2 b3 y0),zFP,default⟩
 | _,_=>none
def k167:Fk 167:=⟨g167,fun args hp y h x hx=>by
 unfold g167 at h
 split at h
 . simp only[Option.bind_eq_some_iff]at h
   obtain ⟨b0,h0,b2,h2,b3,h3,h⟩:=h
   cases h;exact(zIW b0 b2 b3 _).ats (.cons (z9 h0) (.cons (fun _ _ _ _ h=>h) (.cons (z9 h2) (.cons (z9 h3) .nil)))) hx
 . cases h⟩
def k168:Fk 168:=aF (aL (.p .sMemMemory) fun a0=>aL (.i .i64) fun a1=>aL (.i .i64) fun a2=>aE (zIX a0 a1 a2))
def k176:Fk 176:=aF (aS .sQueueForm fun a0=>aL (.i .i64) fun a1=>aE (zI5 a0 a1))
def k177:Fk 177:=aF (aS .sQueueForm fun a0=>aL (.sl (.i .u32)) fun a1=>aL (.i .u32) fun a2=>aL (.i .u32) fun a3=>aE (zI6 a0 a1 a2 a3))
def g179(args:List AV)(hp:List Blk):Option Rsp:=
 match args,hp with
 | [.ref 0 0,a1,a2],[.cells 112 [.own 1],.arr 46 (.i .u32) y0]=>(rdL (.i .i64) a1).bind fun b1=>(rdL (.sl (.i .u32)) a2).bind fun b2=>some ⟨zxo,(ze3 b1 b2 y0),zFS,default⟩
 | _,_=>none
def k179:Fk 179:=⟨g179,fun args hp y h x hx=>by
 unfold g179 at h
 split at h
 . simp only[Option.bind_eq_some_iff]at h
   obtain ⟨b1,h1,b2,h2,h⟩:=h
   cases h;exact(zI8 b1 b2 _).ats (.cons (fun _ _ _ _ h=>h) (.cons (z9 h1) (.cons (z9 h2) .nil))) hx
 . cases h⟩
def k227:Fk 227:=aF (aL (.p .sMemMemory) fun a0=>aL (.i .i64) fun a1=>aL (.i .i64) fun a2=>aE (zJy a0 a1 a2))
def g229(args:List AV)(hp:List Blk):Option Rsp:=
 match args,hp with
 | [.ref 0 0,a1,a2,a3],[.cells 112 [.own 1],.arr 46 (.i .u32) y0]=>(rdL (.i .i64) a1).bind fun b1=>(rdL (.i .i64) a2).bind fun b2=>(rdL (.i .u32) a3).bind fun b3=>some ⟨zxr,(zkB b1 b2 b3 y0),zF9,default⟩
 | _,_=>none
def k229:Fk 229:=⟨g229,fun args hp y h x hx=>by
 unfold g229 at h
 split at h
 . simp only[Option.bind_eq_some_iff]at h
   obtain ⟨b1,h1,b2,h2,b3,h3,h⟩:=h
   cases h;exact(zJA b1 b2 b3 _).ats (.cons (fun _ _ _ _ h=>h) (.cons (z9 h1) (.cons (z9 h2) (.cons (z9 h3) .nil)))) hx
 . cases h⟩
def k230:Fk 230:=aF (aL (.sl (.i .u32)) fun a0=>aL (.i .i64) fun a1=>aE (zJB a0 a1))
def k169:Fk 169:=aF (aS .sHealthWard fun a0=>aL (.sl (.i .u32)) fun a1=>aE (zIY a0 a1))
def GC1:GK:=zhZ [⟨7,k7⟩,⟨11,k11⟩,⟨21,k21⟩,⟨28,k28⟩,⟨31,k31⟩,⟨39,k39⟩,⟨44,k44⟩,⟨56,k56⟩,⟨57,k57⟩,⟨58,k58⟩,⟨59,k59⟩,⟨60,k60⟩,⟨66,k66⟩,⟨76,k76⟩,⟨77,k77⟩,⟨80,k80⟩,⟨82,k82⟩,⟨83,k83⟩,⟨86,k86⟩,⟨88,k88⟩,⟨92,k92⟩,⟨98,k98⟩,⟨103,k103⟩,⟨109,k109⟩,⟨111,k111⟩,⟨113,k113⟩,⟨116,k116⟩,⟨117,k117⟩,⟨118,k118⟩,⟨119,k119⟩,⟨123,k123⟩,⟨125,k125⟩,⟨135,k135⟩,⟨137,k137⟩,⟨147,k147⟩,⟨150,k150⟩,⟨152,k152⟩,⟨153,k153⟩,⟨160,k160⟩,⟨162,k162⟩,⟨167,k167⟩,⟨168,k168⟩,⟨176,k176⟩,⟨177,k177⟩,⟨179,k179⟩,⟨227,k227⟩,⟨229,k229⟩,⟨230,k230⟩,⟨169,k169⟩] GC0
abbrev R71:=(List zm)
def to71(r:R71):Ans:=⟨.own 0,[.arr 182 .sBulkheadref15Piece r]⟩
inductive L71 where | l0 (x0:Int) (x1:Int) (x2:List zm) | l4 (x0:Int) (x1:Int) (x2:List zm) | l8 (x0:Int) (x1:Int) (x2:Int) (x3:Int) (x4:List zm) (x5:Int) (x6:Int) (x7:Int) | l16 (x0:Int) (x1:List zm) | l12 (x0:Int) (x1:Int) (x2:Int) (x3:Int) (x4:Int) (x5:Int) (x6:Int) (x7:List zm) (x8:Int) (x9:Int) (x10:Int) | l20 (x0:Int) (x1:Int) (x2:List zm) | l61 (x0:Int) (x1:Int) (x2:Int) (x3:Int) (x4:Int) (x5:Int) (x6:Int) (x7:List zm) (x8:Int) (x9:Int) (x10:Int) | l24 (x0:Int) (x1:Int) (x2:Int) (x3:Int) (x4:Int) (x5:List zm) | l89 (x0:Int) (x1:Int) (x2:Int) (x3:Int) (x4:Int) (x5:List zm) | l28 (x0:Int) (x1:Int) (x2:Int) (x3:Int) (x4:Int) (x5:List zm)
def H71:zab:=htt [30,44] [(0,⟨fgt [1,3,4,27,28] 181 0,[]⟩),(4,⟨fgt [1,3,4,60,61] 181 0,[]⟩),(8,⟨fgt [1,3,4,6,7,60,61,93,94] 181 0,[]⟩),(12,⟨fgt [1,3,4,6,7,8,60,61,93,94,103,104] 181 0,[]⟩),(16,⟨fgt [1,3,4] 181 0,[]⟩),(20,⟨fgt [1,3,4,149,150] 181 0,[]⟩),(24,⟨fgt [1,3,4,11,12,149,150,153] 181 0,[]⟩),(28,⟨fgt [1,3,4,11,149,150,166,167] 181 0,[]⟩),(61,⟨fgt [1,3,4,6,7,8,60,61,93,94,103,104] 181 0,[]⟩),(89,⟨fgt [1,3,4,11,12,149,150,153] 181 0,[]⟩)] []
def st71(c:za):L71->Nat × St | .l0 x0 x1 x2=>(0,⟨mkE [(1,.ref 0 0),(3,.own 1),(4,(zg x0)),(27,(zg c.qq.length)),(28,(zg x1))] 181 0,[.cells 26 (Ty.enc .sConfig c),.arr 182 .sBulkheadref15Piece x2],GL,0,[],zN⟩) | .l4 x0 x1 x2=>(4,⟨mkE [(1,.ref 0 0),(3,.own 1),(4,(zg x0)),(60,(zg c.qw.length)),(61,(zg x1))] 181 0,[.cells 26 (Ty.enc .sConfig c),.arr 182 .sBulkheadref15Piece x2],GL,0,[],zN⟩) | .l8 x0 x1 x2 x3 x4 x5 x6 x7=>(8,⟨mkE [(1,.ref 0 0),(3,.own 1),(4,(zg x0)),(6,(zg x1)),(7,.ref 2 0),(60,(zg c.qw.length)),(61,(zg x2)),(93,(zg c.qq.length)),(94,(zg x3))] 181 0,[.cells 26 (Ty.enc .sConfig c),.arr 182 .sBulkheadref15Piece x4,.cells 76 [(zg x5),(zg x6),(zg x7)]],GL,0,[],zN⟩) | .l16 x0 x1=>(16,⟨mkE [(1,.ref 0 0),(3,.own 1),(4,(zg x0))] 181 0,[.cells 26 (Ty.enc .sConfig c),.arr 182 .sBulkheadref15Piece x1],GL,0,[],zN⟩) | .l12 x0 x1 x2 x3 x4 x5 x6 x7 x8 x9 x10=>(12,⟨mkE [(1,.ref 0 0),(3,.own 1),(4,(zg x0)),(6,(zg x1)),(7,.ref 2 0),(8,(zg x2)),(60,(zg c.qw.length)),(61,(zg x3)),(93,(zg c.qq.length)),(94,(zg x4)),(103,(zg x5)),(104,(zg x6))] 181 0,[.cells 26 (Ty.enc .sConfig c),.arr 182 .sBulkheadref15Piece x7,.cells 76 [(zg x8),(zg x9),(zg x10)]],GL,0,[],zN⟩) | .l20 x0 x1 x2=>(20,⟨mkE [(1,.ref 0 0),(3,.own 1),(4,(zg x0)),(149,(zg c.qq.length)),(150,(zg x1))] 181 0,[.cells 26 (Ty.enc .sConfig c),.arr 182 .sBulkheadref15Piece x2],GL,0,[],zN⟩) | .l61 x0 x1 x2 x3 x4 x5 x6 x7 x8 x9 x10=>(61,⟨mkE [(1,.ref 0 0),(3,.own 1),(4,(zg x0)),(6,(zg x1)),(7,.ref 2 0),(8,(zg x2)),(60,(zg c.qw.length)),(61,(zg x3)),(93,(zg c.qq.length)),(94,(zg x4)),(103,(zg x5)),(104,(zg x6))] 181 0,[.cells 26 (Ty.enc .sConfig c),.arr 182 .sBulkheadref15Piece x7,.cells 76 [(zg x8),(zg x9),(zg x10)]],GL,0,[],zN⟩) | .l24 x0 x1 x2 x3 x4 x5=>(24,⟨mkE [(1,.ref 0 0),(3,.own 1),(4,(zg x0)),(11,(zg x1)),(12,(zg x2)),(149,(zg c.qq.length)),(150,(zg x3)),(153,(zg x4))] 181 0,[.cells 26 (Ty.enc .sConfig c),.arr 182 .sBulkheadref15Piece x5],GL,0,[],zN⟩) | .l89 x0 x1 x2 x3 x4 x5=>(89,⟨mkE [(1,.ref 0 0),(3,.own 1),(4,(zg x0)),(11,(zg x1)),(12,(zg x2)),(149,(zg c.qq.length)),(150,(zg x3)),(153,(zg x4))] 181 0,[.cells 26 (Ty.enc .sConfig c),.arr 182 .sBulkheadref15Piece x5],GL,0,[],zN⟩) | .l28 x0 x1 x2 x3 x4 x5=>(28,⟨mkE [(1,.ref 0 0),(3,.own 1),(4,(zg x0)),(11,(zg x1)),(149,(zg c.qq.length)),(150,(zg x2)),(166,(zg x3)),(167,(zg x4))] 181 0,[.cells 26 (Ty.enc .sConfig c),.arr 182 .sBulkheadref15Piece x5],GL,0,[],zN⟩)
def zcK(c:za):L71->Tree L71 R71 | .l0 x0 x1 x2 =>let y4:=(⟨x0,2,(⟨3,x1,0⟩:zaF)⟩:zm);let y6:=(x2:List zm);let y1:=((y6++[y4]):List zm);let y7:=i64.wrap (x0+2);let y2:=(⟨y7,17,(⟨4,x1,0⟩:zaF)⟩:zm);let y3:=(⟨(i64.wrap (y7+17)),5,(⟨5,x1,0⟩:zaF)⟩:zm);let y5:=((y1++[y2]):List zm);.c (decide (x1<c.qq.length)) (.g (leB ((y6.length+([y4]:List zm).length)*40) 140737488355328) <| .g (leB ((y1.length+([y2]:List zm).length)*40) 140737488355328) <| .g (leB ((y5.length+([y3]:List zm).length)*40) 140737488355328) <| .j (.l0 (i64.wrap (x0+24)) (i64.wrap (x1+1)) (y5++[y3]))) (.j (.l4 x0 0 x2)) | .l4 x0 x1 x2 =>let y1:=zw c.qw x1.toNat;let y3:=(⟨(i64.wrap (x0+2)),(zo9 y1),(⟨7,x1,0⟩:zaF)⟩:zm);let y4:=(⟨x0,2,(⟨6,x1,0⟩:zaF)⟩:zm);let y5:=(x2:List zm);let y2:=((y5++[y4]):List zm);.c (decide (x1<c.qw.length)) (.g (zO x1 c.qw.length) <| .g (leB ((y5.length+([y4]:List zm).length)*40) 140737488355328) <| .g (leB ((y2.length+([y3]:List zm).length)*40) 140737488355328) <| .j (.l8 (i64.wrap (x0+(i64.wrap (2+(zo9 y1))))) x1 x1 0 (y2++[y3]) (y1.kind) (y1.qx) (y1.qy))) (.j (.l16 x0 x2)) | .l8 x0 x1 x2 x3 x4 x5 x6 x7=>.c (decide (x3<c.qq.length)) (.g (zO x3 c.qq.length) <| .j (.l12 x0 x1 x3 x2 x3 (((zb c.qq x3.toNat).qt).length) 0 x4 x5 x6 x7)) (.j (.l4 x0 (i64.wrap (x2+1)) x4)) | .l16 x0 x1=>.c (!(((bop .rem .i64 x0 16):Int)==0)) (.j (.l16 (i64.wrap (x0+1)) x1)) (.j (.l20 x0 0 x1)) | .l12 x0 x1 x2 x3 x4 x5 x6 x7 x8 x9 x10 =>let y2:=(zb c.qq x2.toNat).qt;let y3:=(zo8 (⟨x8,x9,x10⟩:zI));let y1:=(⟨x0,y3,(⟨8,x2,x6⟩:zaF)⟩:zm);let y4:=(x7:List zm);let y5:=zbe y2 x6.toNat;.c (decide (x6<x5)) (.g (zO x2 c.qq.length) <| .g (zO x6 y2.length) <| .c ((y5.ql:Int)==x1) (.c (!(y5.qb)) (.g (leB ((y4.length+([y1]:List zm).length)*40) 140737488355328) <| .j (.l61 (i64.wrap (x0+y3)) x1 x2 x3 x4 x5 x6 (y4++[y1]) x8 x9 x10)) (.j (.l61 x0 x1 x2 x3 x4 x5 x6 x7 x8 x9 x10))) (.j (.l61 x0 x1 x2 x3 x4 x5 x6 x7 x8 x9 x10))) (.j (.l8 x0 x1 x3 (i64.wrap (x4+1)) x7 x8 x9 x10)) | .l20 x0 x1 x2=>.c (decide (x1<c.qq.length)) (.j (.l24 x0 x1 1 x1 0 x2)) (.r x2) | .l61 x0 x1 x2 x3 x4 x5 x6 x7 x8 x9 x10=>.j (.l12 x0 x1 x2 x3 x4 x5 (i64.wrap (x6+1)) x7 x8 x9 x10) | .l24 x0 x1 x2 x3 x4 x5=>.c (decide (x4<16)) (.g (zO x1 c.qq.length) <| .b (zkm (zb c.qq x1.toNat) x4) fun r1=>.c r1 (.j (.l89 x0 x1 (i64.wrap (x2+1)) x3 x4 x5)) (.j (.l89 x0 x1 x2 x3 x4 x5))) (.j (.l28 x0 x1 x3 x2 0 x5)) | .l89 x0 x1 x2 x3 x4 x5=>.j (.l24 x0 x1 x2 x3 (i64.wrap (x4+1)) x5) | .l28 x0 x1 x2 x3 x4 x5 =>let y1:=(⟨x0,16,(⟨9,x1,0⟩:zaF)⟩:zm);let y2:=(x5:List zm);.c (decide (x4<x3)) (.g (leB ((y2.length+([y1]:List zm).length)*40) 140737488355328) <| .j (.l28 (i64.wrap (x0+16)) x1 x2 x3 (i64.wrap (x4+1)) (y2++[y1]))) (.j (.l20 x0 (i64.wrap (x2+1)) x5))
def zE7(c:za):Tree L71 R71:=.g (leB ((([]:List zm).length+([(⟨(i64.wrap (16*c.kernel)),2,(⟨2,0,0⟩:zaF)⟩:zm)]:List zm).length)*40) 140737488355328) <| .j (.l0 (i64.wrap ((i64.wrap (16*c.kernel))+2)) 0 (([]:List zm)++[(⟨(i64.wrap (16*c.kernel)),2,(⟨2,0,0⟩:zaF)⟩:zm)]))
def zcP(c:za):L71->Option R71:=zal (zcK c)
theorem za9(c:za)(l:L71):zcP c l=(zcK c l).run (zcP c):=zE _ l
def zjv(c:za):Option R71:=(zE7 c).run (zcP c)
theorem zOq(c:za):Oks 71 [.agg (Ty.enc .sConfig c)] [] (zjv c) to71:=zL GC1 (H:=H71) zJ Tryz.func71 rfl (by kernel_rfl) (st71 c) (fun J l=>by cases l <;> kernel_rfl) (fun J=>by kernel_rfl)
abbrev R22:=(List Int) × Int
def to22(r:R22):Ans:=⟨.tup [.sl (.i .i64) r.1,(zg r.2)],[]⟩
inductive L22 where | l29 (x0:List Int)
def H22:zab:=htt [14] [(29,⟨fgt [11] 59 0,[]⟩)] [(.slot 0,.sl (.i .i64))]
def st22(s_0:(Option zr))(p:Int)(call:Int)(x:zB):L22->Nat × St | .l29 x0=>(29,⟨mkE [(11,.own 0)] 59 0,[.arr 3 (.i .i64) x0],GL,0,[],zN⟩)
def zzE(s_0:(Option zr))(p:Int)(call:Int)(x:zB):L22->Tree L22 R22 | .l29 x0=>.r (x0,0)
def zEJ(s_0:(Option zr))(p:Int)(call:Int)(x:zB):Tree L22 R22:=.c s_0.isNone (.r ([],3)) (.b (zpv s_0 p call) fun r1=>.c (!((r1:Int)==0)) (.r ([],r1)) (.g s_0.isSome <| .g (zO p ((s_0.getD default).lay.qq).length) <| .c ((call:Int)==1) (.g s_0.isSome <| .g (zO 1 16) <| .b (znD ((s_0.getD default).qg) p (i64.wrap x.qz.e1)) fun r2=>.c r2.2.2 (.g (leB ((([(zn ((s_0.getD default).lay.qq) p.toNat).lock]:List Int).length+([r2.2.1]:List Int).length)*8) 140737488355328) <| .j (.l29 (([(zn ((s_0.getD default).lay.qq) p.toNat).lock]:List Int)++[r2.2.1]))) (.j (.l29 [(zn ((s_0.getD default).lay.qq) p.toNat).lock]))) (.c ((call:Int)==2) (.g s_0.isSome <| .g (zO 1 16) <| .b (znD ((s_0.getD default).qg) p (i64.wrap x.qz.e1)) fun r3=>.c r3.2.2 (.g (leB ((([(zn ((s_0.getD default).lay.qq) p.toNat).lock]:List Int).length+([r3.2.1]:List Int).length)*8) 140737488355328) <| .j (.l29 (([(zn ((s_0.getD default).lay.qq) p.toNat).lock]:List Int)++[r3.2.1]))) (.j (.l29 [(zn ((s_0.getD default).lay.qq) p.toNat).lock]))) (.c ((call:Int)==3) (.g s_0.isSome <| .g (zO 1 16) <| .b (znD ((s_0.getD default).qg) p (i64.wrap x.qz.e1)) fun r4=>.c r4.2.2 (.g (leB ((([(zn ((s_0.getD default).lay.qq) p.toNat).lock]:List Int).length+([r4.2.1]:List Int).length)*8) 140737488355328) <| .j (.l29 (([(zn ((s_0.getD default).lay.qq) p.toNat).lock]:List Int)++[r4.2.1]))) (.j (.l29 [(zn ((s_0.getD default).lay.qq) p.toNat).lock]))) (.j (.l29 [(zn ((s_0.getD default).lay.qq) p.toNat).lock]))))))
def zv5(s_0:(Option zr))(p:Int)(call:Int)(x:zB):L22->Option R22:=zal (zzE s_0 p call x)
theorem zB4(s_0:(Option zr))(p:Int)(call:Int)(x:zB)(l:L22):zv5 s_0 p call x l=(zzE s_0 p call x l).run (zv5 s_0 p call x):=zE _ l
def zwe(s_0:(Option zr))(p:Int)(call:Int)(x:zB):Option R22:=(zEJ s_0 p call x).run (zv5 s_0 p call x)
theorem zNF(s_0:(Option zr))(p:Int)(call:Int)(x:zB):Oks 22 [.op .sCallsCalls s_0,(zg p),(zg call),.agg (Ty.enc .sContext x)] [] (zwe s_0 p call x) to22:=zL GC1 (H:=H22) zJ Tryz.func22 rfl (by kernel_rfl) (st22 s_0 p call x) (fun J l=>by cases l <;> kernel_rfl) (fun J=>by kernel_rfl)
abbrev zGv:=zX × (List Int) × Int × ze
def zFM(r:zGv):Ans:=⟨.tup [.agg [(zg r.1.place.lock),(zg r.1.place.save),(zg r.1.place.state),(zg r.1.place.root),.sl (.i .i64) r.1.place.qs,(zu r.1.entry),(zu r.1.most),(zu r.1.outs),.any,.any],.sl (.i .u32) r.2.1,(zg r.2.2.1)],[.cells 112 [.own 1],.arr 46 (.i .u32) r.2.2.2.qx]⟩
def H161:zab:=⟨fun _=>false,fun _=>⟨[],[]⟩,[(.cell 0 4,.sl (.i .i64)),(.cell 0 8,.un),(.cell 0 9,.un),(.slot 1,.sl (.i .u32))],G0,zN⟩
def znq(w:(Option zae))(p:Int)(odd:Bool)(ws:List Int):Option zGv:=Tree.run0 <|
 .b (znr w p odd ws) fun r1=>
 .c (!((r1.2.1:Int)==0))
 (.r ((⟨(⟨0,0,0,0,[]⟩:zk),0,0,0,(⟨(),()⟩:zay)⟩:zX),[],r1.2.1,r1.2.2))
 (.b (zc2 (some r1.2.2) r1.1.place.state 5) fun r2=>
 .c (!((r2.2:Int)==0))
 (.r ((⟨(⟨0,0,0,0,[]⟩:zk),0,0,0,(⟨(),()⟩:zay)⟩:zX),[],1,r1.2.2))
 (.b (zrf (⟨r1.1.place,r1.1.entry,r1.1.most,r1.1.outs,(⟨(),()⟩:zay)⟩:zX) r2.1) fun r3=>
 .c (!r3)
 (.r ((⟨(⟨0,0,0,0,[]⟩:zk),0,0,0,(⟨(),()⟩:zay)⟩:zX),[],231,r1.2.2))
 (.r ((⟨r1.1.place,r1.1.entry,r1.1.most,r1.1.outs,(⟨(),()⟩:zay)⟩:zX),r2.1,0,r1.2.2))))
theorem zIQ(w:(Option zae))(p:Int)(odd:Bool)(ws:List Int):Oks 161 [.op .sHealthWards w,.ref 0 0,(zg p),(avB odd)] [.cells 112 [.own 1],.arr 46 (.i .u32) ws] (znq w p odd ws) zFM:=zM GC1 (H:=H161) zJ Tryz.func161 rfl (by kernel_rfl) (fun J=>by kernel_rfl)
abbrev zGL:=(List Int) × Int
def zQN(r:zGL):Ans:=⟨.tup [.own 0,(zg r.2)],[.arr 46 (.i .u32) r.1]⟩
def H226:zab:=⟨fun _=>false,fun _=>⟨[],[]⟩,[(.slot 0,.own 46 (.i .u32))],G0,zN⟩
def zc3(m:(Option ze))(at_1:Int)(qx:Int)(head:Int):Option zGL:=Tree.run0 <|
 .b (zc2 m at_1 (i64.wrap (head+qx))) fun r1=>
 .c (!((r1.2:Int)==0))
 (.r ([],r1.2))
 (.b (znx r1.1 head) fun r2=>
 .c (!r2.2)
 (.r ([],191))
 (.r (r2.1,0)))
theorem zJx(m:(Option ze))(at_1:Int)(qx:Int)(head:Int):Oks 226 [.op .sMemMemory m,(zg at_1),(zg qx),(zg head)] [] (zc3 m at_1 qx head) zQN:=zM GC1 (H:=H226) zJ Tryz.func226 rfl (by kernel_rfl) (fun J=>by kernel_rfl)
abbrev R172:=Bool
def zQA(r:R172):Ans:=⟨(avB r),[]⟩
def zeD(f:zy)(m:(Option ze))(at_2:Int)(head:Int):Option R172:=Tree.run0 <|
 .b (zc2 m at_2 (zeO f head)) fun r1=>
 .r ((r1.2:Int)==0)
theorem zI1(f:zy)(m:(Option ze))(at_2:Int)(head:Int):Oks 172 [.agg [(zg f.qx),(zg f.qy)],.op .sMemMemory m,(zg at_2),(zg head)] [] (zeD f m at_2 head) zQA:=zM GC1 (H:=H0) zJ Tryz.func172 rfl (by kernel_rfl) (fun J=>by kernel_rfl)
abbrev R47:=zaR × Int
def to47(r:R47):Ans:=⟨.tup [.agg [(zg r.1.barrier),.own 0,.own 1,(zg r.1.end_)],(zg r.2)],[.row 140 .sPartitionPlace [(4,3)] [] r.1.qq,.row 189 .sChannelPlace [(4,209)] [] r.1.qw]⟩
inductive L47 where | l0 (x0:Int) (x1:Int) (x2:List zk) | l4 (x0:Int) (x1:Int) (x2:List zk) (x3:List zF) | l8 (v0:R78) (x0:Int) (x1:Int) (x2:Int) (x3:List zk) (x4:List zF) (x5:Int) (x6:Int) (x7:Int) (x8:Int) (x9:Int) (x10:List zaX) | l12 (x0:Int) (x1:List zk) (x2:List zF) (x3:Int) | l16 (v0:R81) (x0:Int) (x1:Int) (x2:Int) (x3:List zk) (x4:List zF) (x5:Int)
def H47:zab:=⟨fun n=>[].any (Nat.beq n),zfi [(0,⟨fgt [1,2,4,5,29,30] 148 0,[(.box 5 1,.own 140 .sPartitionPlace)]⟩),(4,⟨fgt [1,2,4,5,46,47,48] 148 0,[(.box 5 2,.own 189 .sChannelPlace)]⟩),(8,⟨fgt [1,2,4,5,7,10,46,47,48,74,75,76] 148 0,[(.box 10 4,.own 209 .sDestPlace),(.box 5 2,.own 189 .sChannelPlace)]⟩),(12,⟨fgt [2,5,13,109,110,111] 148 0,[(.box 5 2,.own 189 .sChannelPlace)]⟩),(16,⟨fgt [2,5,13,14,109,110,111,124,125] 148 0,[]⟩)],[(.cell 0 1,.own 140 .sPartitionPlace),(.cell 0 2,.own 189 .sChannelPlace)],G0,(fun e=>match e with | 140=>[(4,3)] | 189=>[(4,209)] | _=>[])⟩
def st47(c:za):L47->Nat × St | .l0 x0 x1 x2=>(0,⟨mkE [(1,.ref 0 0),(2,.ref 1 0),(4,.fn (.func 129) [] [.ref 2 0]),(5,.ref 3 0),(29,(zg c.qq.length)),(30,(zg x0))] 148 0,[.cells 26 (Ty.enc .sConfig c),.cells 104 [(zg 0),.v (.slice none 0 0),.v (.slice none 0 0),(zg 0)],.cells 3 [(zg x1)],.cells 104 [(zg ((zb8 2 (zn9 (i64.wrap (c.kernel*16)))).1)),.own 4,.v (.slice none 0 0),(zg 0)],.row 140 .sPartitionPlace [(4,3)] [] x2],GL,0,[],(fun e=>match e with | 140=>[(4,3)] | 189=>[(4,209)] | _=>[])⟩) | .l4 x0 x1 x2 x3=>(4,⟨mkE [(1,.ref 0 0),(2,.ref 1 0),(4,.fn (.func 129) [] [.ref 2 0]),(5,.ref 3 0),(46,.sl .sChannel c.qw),(47,(zg c.qw.length)),(48,(zg x0))] 148 0,[.cells 26 (Ty.enc .sConfig c),.cells 104 [(zg 0),.v (.slice none 0 0),.v (.slice none 0 0),(zg 0)],.cells 3 [(zg x1)],.cells 104 [(zg ((zb8 2 (zn9 (i64.wrap (c.kernel*16)))).1)),.own 4,.own 5,(zg 0)],.row 140 .sPartitionPlace [(4,3)] [] x2,.row 189 .sChannelPlace [(4,209)] [] x3],GL,0,[],(fun e=>match e with | 140=>[(4,3)] | 189=>[(4,209)] | _=>[])⟩) | .l8 v0 x0 x1 x2 x3 x4 x5 x6 x7 x8 x9 x10=>(8,⟨mkE [(1,.ref 0 0),(2,.ref 1 0),(4,.fn (.func 129) [] [.ref 2 0]),(5,.ref 3 0),(7,.ref 6 0),(10,.ref 7 0),(46,.sl .sChannel c.qw),(47,(zg c.qw.length)),(48,(zg x0)),(74,.own 9),(75,(zg v0.2.length)),(76,(zg x1))] 148 0,[.cells 26 (Ty.enc .sConfig c),.cells 104 [(zg 0),.v (.slice none 0 0),.v (.slice none 0 0),(zg 0)],.cells 3 [(zg x2)],.cells 104 [(zg ((zb8 2 (zn9 (i64.wrap (c.kernel*16)))).1)),.own 4,.own 5,(zg 0)],.row 140 .sPartitionPlace [(4,3)] [] x3,.row 189 .sChannelPlace [(4,209)] [] x4,.cells 76 [(zg x5),(zg x6),(zg x7)],.cells 189 [(zg x8),(zg x9),(zg ((zZ v0.1 0).qk)),(zg ((zZ v0.1 0).port)),.own 8],.arr 209 .sDestPlace x10,.arr 207 .sLayoutEnd v0.2],GL,0,[],(fun e=>match e with | 140=>[(4,3)] | 189=>[(4,209)] | _=>[])⟩) | .l12 x0 x1 x2 x3=>(12,⟨mkE [(2,.ref 0 0),(5,.ref 1 0),(13,.fn (.func 129) [] [.ref 4 0]),(109,.sl .sPartition c.qq),(110,(zg c.qq.length)),(111,(zg x0))] 148 0,[.cells 104 [(zg 0),.v (.slice none 0 0),.v (.slice none 0 0),(zg 0)],.cells 104 [(zg ((zb8 2 (zn9 (i64.wrap (c.kernel*16)))).1)),.own 2,.own 3,(zg 0)],.row 140 .sPartitionPlace [(4,3)] [] x1,.row 189 .sChannelPlace [(4,209)] [] x2,.cells 3 [(zg x3)]],GL,0,[],(fun e=>match e with | 140=>[(4,3)] | 189=>[(4,209)] | _=>[])⟩) | .l16 v0 x0 x1 x2 x3 x4 x5=>(16,⟨mkE [(2,.ref 0 0),(5,.ref 1 0),(13,.fn (.func 129) [] [.ref 4 0]),(14,(zg x0)),(109,.sl .sPartition c.qq),(110,(zg c.qq.length)),(111,(zg x1)),(124,(zg v0)),(125,(zg x2))] 148 0,[.cells 104 [(zg 0),.v (.slice none 0 0),.v (.slice none 0 0),(zg 0)],.cells 104 [(zg ((zb8 2 (zn9 (i64.wrap (c.kernel*16)))).1)),.own 2,.own 3,(zg 0)],.row 140 .sPartitionPlace [(4,3)] [] x3,.row 189 .sChannelPlace [(4,209)] [] x4,.cells 3 [(zg x5)]],GL,0,[],(fun e=>match e with | 140=>[(4,3)] | 189=>[(4,209)] | _=>[])⟩)
def zfW(c:za):L47->Tree L47 R47 | .l0 x0 x1 x2 =>let y2:=zb8 17 ((zb8 2 x1).2);let y1:=(⟨(zb8 2 x1).1,y2.1,(zb8 5 (y2.2)).1,0,[]⟩:zk);let y3:=(x2:List zk);.c (decide (x0<c.qq.length)) (.g (leB ((y3.length+([y1]:List zk).length)*56) 140737488355328) <| .j (.l0 (i64.wrap (x0+1)) ((zb8 5 (y2.2)).2) (y3++[y1]))) (.j (.l4 0 x1 x2 [])) | .l4 x0 x1 x2 x3 =>let y1:=zw c.qw x0.toNat;let y2:=zb8 (zqQ y1) ((zb8 2 x1).2);.c (decide (x0<c.qw.length)) (.g (zO x0 c.qw.length) <| .b (zpy c x0) fun r2=>.g (zO 0 r2.1.length) <| .g (zO 0 r2.1.length) <| .j (.l8 r2 x0 0 (y2.2) x2 x3 (y1.kind) (y1.qx) (y1.qy) ((zb8 2 x1).1) (y2.1) [])) (.j (.l12 0 x2 x3 (zn9 (bop .quo .i64 (i64.wrap ((i64.wrap ((zb8 0 x1).1+16))-1)) 16)))) | .l8 v0 x0 x1 x2 x3 x4 x5 x6 x7 x8 x9 x10 =>let y3:=(zb8 (zB1 (⟨x5,x6,x7⟩:zI)) x2);let y4:=zZ v0.2 x1.toNat;let y1:=(⟨y4.qk,y4.port,y3.1⟩:zaX);let y5:=(x4:List zF);let y6:=(x10:List zaX);let y7:=zZ v0.1 0;let y2:=(⟨x8,x9,y7.qk,y7.port,x10⟩:zF);.c (decide (x1<v0.2.length)) (.g (zO x1 v0.2.length) <| .g (leB ((y6.length+([y1]:List zaX).length)*24) 140737488355328) <| .j (.l8 v0 x0 (i64.wrap (x1+1)) (y3.2) x3 x4 x5 x6 x7 x8 x9 (y6++[y1]))) (.g (leB ((y5.length+([y2]:List zF).length)*56) 140737488355328) <| .j (.l4 (i64.wrap (x0+1)) x2 x3 (y5++[y2]))) | .l12 x0 x1 x2 x3 =>let y1:=zn x1 x0.toNat;.c (decide (x0<c.qq.length)) (.g (zO x0 c.qq.length) <| .g (zO x0 x1.length) <| .b (zwl (zb c.qq x0.toNat)) fun r3=>.j (.l16 r3 x0 x0 0 (List.set x1 x0.toNat (⟨y1.lock,y1.save,y1.state,(zb8 1 x3).1,y1.qs⟩:zk)) x2 ((zb8 1 x3).2))) (.r ((⟨(zb8 2 (zn9 (i64.wrap (c.kernel*16)))).1,x1,x2,(zb8 0 x3).1⟩:zaR),0)) | .l16 v0 x0 x1 x2 x3 x4 x5 =>let y1:=zn x3 x0.toNat;let y2:=(y1.qs:List Int);let y3:=zb8 1 x5;.c (decide (x2<v0)) (.g (zO x0 x3.length) <| .g (leB ((y2.length+([y3.1]:List Int).length)*8) 140737488355328) <| .g (zO x0 x3.length) <| .g (Nat.beq x0.toNat x0.toNat) <| .j (.l16 v0 x0 x1 (i64.wrap (x2+1)) (List.set x3 x0.toNat (⟨y1.lock,y1.save,y1.state,y1.root,(y2++[y3.1])⟩:zk)) x4 (y3.2))) (.j (.l12 (i64.wrap (x1+1)) x3 x4 x5))
def zET(c:za):Tree L47 R47:=.b (ztp c) fun r1=>.c (!r1) (.r ((⟨0,[],[],0⟩:zaR),150)) (.j (.l0 0 ((zb8 2 (zn9 (i64.wrap (c.kernel*16)))).2) []))
def zcO(c:za):L47->Option R47:=zal (zfW c)
theorem zcz(c:za)(l:L47):zcO c l=(zfW c l).run (zcO c):=zE _ l
def zc4(c:za):Option R47:=(zET c).run (zcO c)
theorem zN2(c:za):Oks 47 [.agg (Ty.enc .sConfig c)] [] (zc4 c) to47:=zL GC1 (H:=H47) zJ Tryz.func47 rfl (by kernel_rfl) (st47 c) (fun J l=>by cases l <;> kernel_rfl) (fun J=>by kernel_rfl)
abbrev zyX:=Int
def zP6(r:zyX):Ans:=⟨(zg r),[]⟩
inductive zwR where | l0 (x0:Int) | l4 (x0:Int) | l8 (x0:Int) (x1:Int)
def H136:zab:=htt [] [(0,⟨fgt [1,2,3,7,8] 91 0,[]⟩),(4,⟨fgt [1,2,3,7,10] 91 0,[]⟩),(8,⟨fgt [1,2,3,7,10,11] 91 0,[]⟩)] []
def zPe(c:za)(p:Int)(k:Int):zwR->Nat × St | .l0 x0=>(0,⟨mkE [(1,(zg p)),(2,(zg k)),(3,.ref 0 0),(7,.ref 1 0),(8,(zg x0))] 91 0,[.cells 26 (Ty.enc .sConfig c),.cells 138 (Ty.enc .sRegion (zi ((zb c.qq p.toNat).qe) k.toNat))],GL,0,[],zN⟩) | .l4 x0=>(4,⟨mkE [(1,(zg p)),(2,(zg k)),(3,.ref 0 0),(7,.ref 1 0),(10,(zg x0))] 91 0,[.cells 26 (Ty.enc .sConfig c),.cells 138 (Ty.enc .sRegion (zi ((zb c.qq p.toNat).qe) k.toNat))],GL,0,[],zN⟩) | .l8 x0 x1=>(8,⟨mkE [(1,(zg p)),(2,(zg k)),(3,.ref 0 0),(7,.ref 1 0),(10,(zg x0)),(11,(zg x1))] 91 0,[.cells 26 (Ty.enc .sConfig c),.cells 138 (Ty.enc .sRegion (zi ((zb c.qq p.toNat).qe) k.toNat))],GL,0,[],zN⟩)
def zeR(c:za)(p:Int)(k:Int):zwR->Tree zwR zyX | .l0 x0 =>let y1:=(zb c.qq p.toNat).qe;let y2:=zi y1 x0.toNat;let y3:=zi y1 k.toNat;.c (decide (x0<k)) (.g (zO p c.qq.length) <| .g (zO x0 y1.length) <| .c (zpa (y3.page) (y3.qc) (y2.page) (y2.qc)) (.r 410) (.j (.l0 (i64.wrap (x0+1))))) (.j (.l4 0)) | .l4 x0=>.c (decide (x0<=p)) (.j (.l8 x0 0)) (.r 0) | .l8 x0 x1 =>let y2:=(zb c.qq x0.toNat).qe;let y3:=zi ((zb c.qq p.toNat).qe) k.toNat;let y4:=zO x0 c.qq.length;let y5:=i64.wrap (x0+1);let y6:=i64.wrap (x1+1);let y7:=zi y2 x1.toNat;let y1:=zpa (y3.frame) (y3.qc) (y7.frame) (y7.qc);.g y4 <| .c (decide (x1<y2.length)) (.c (x0==p) (.c (decide (x1>=k)) (.j (.l4 y5)) (.g y4 <| .g (zO x1 y2.length) <| .c y1 (.r 411) (.j (.l8 x0 y6)))) (.g y4 <| .g (zO x1 y2.length) <| .c y1 (.r 411) (.j (.l8 x0 y6)))) (.j (.l4 y5))
def zz6(c:za)(p:Int)(k:Int):Tree zwR zyX:=.g (zO p c.qq.length) <| .g (zO k ((zb c.qq p.toNat).qe).length) <| .c (!(zsH c (zi ((zb c.qq p.toNat).qe) k.toNat))) (.r 409) (.j (.l0 0))
def zcF(c:za)(p:Int)(k:Int):zwR->Option zyX:=zal (zeR c p k)
theorem zcM(c:za)(p:Int)(k:Int)(l:zwR):zcF c p k l=(zeR c p k l).run (zcF c p k):=zE _ l
def zq8(c:za)(p:Int)(k:Int):Option zyX:=(zz6 c p k).run (zcF c p k)
theorem zIr(c:za)(p:Int)(k:Int):Oks 136 [.agg (Ty.enc .sConfig c),(zg p),(zg k)] [] (zq8 c p k) zP6:=zL GC1 (H:=H136) zJ Tryz.func136 rfl (by kernel_rfl) (zPe c p k) (fun J l=>by cases l <;> kernel_rfl) (fun J=>by kernel_rfl)
abbrev zxn:=ze
def zFR(r:zxn):Ans:=⟨.tup [],[.cells 112 [.own 1],.arr 46 (.i .u32) r.qx]⟩
inductive zw7 where | l0 (x0:Int) (x1:List Int)
def H174:zab:=htt [] [(0,⟨fgt [1,2,4,5,8,10,23,24,25] 61 0,[]⟩)] []
def zPu(f:zy)(pl:Int)(row:zU)(hd:(List Int))(ws:List Int):zw7->Nat × St | .l0 x0 x1=>(0,⟨mkE [(1,.ref 0 0),(2,(zg pl)),(4,.sl (.i .u32) hd),(5,.ref 2 0),(8,.ref 3 0),(10,.own 4),(23,.sl (.sl (.i .u32)) row.qd),(24,(zg row.qd.length)),(25,(zg x0))] 61 0,[.cells 112 [.own 1],.arr 46 (.i .u32) ws,.cells 299 [(zg f.qx),(zg f.qy)],.cells 301 (Ty.enc .sQueueRow row),.arr 46 (.i .u32) x1],GL,2,[],zN⟩)
def zqb(f:zy)(pl:Int)(row:zU)(hd:(List Int))(ws:List Int):zw7->Tree zw7 zxn | .l0 x0 x1 =>let y1:=i64.wrap (hd.length+(i64.wrap ((dv .rem .i64 (i64.wrap ((i64.wrap row.first)+x0)) f.qy)*(zmW f))));let y2:=List.set x1 (y1.toNat) (u32.wrap ((zW row.qd x0.toNat).length));let y3:=i64.wrap (y1+1);.c (decide (x0<row.qd.length)) (.g (zO x0 row.qd.length) <| .c (decide ((f.qy:Int)=0)) (.n) (.g (zO y1 x1.length) <| .g (inS y3 (y2.length) y2.length) <| .j (.l0 (i64.wrap (x0+1)) (zcH y2 (y3.toNat) (List.take ((y2.length:Int).toNat-y3.toNat) (zW row.qd x0.toNat:List Int)))))) (.b (ze3 pl x1 ws) fun r1=>.r r1.2)
def zAh(f:zy)(pl:Int)(row:zU)(hd:(List Int))(ws:List Int):Tree zw7 zxn:=.g (decide (((zeO f hd.length):Int)=(zeO f hd.length))&&decide (0<=(zeO f hd.length))&&leB ((zeO f hd.length).toNat*4) 140737488355328) <| .j (.l0 0 (zcH (List.replicate (zeO f hd.length).toNat (0:Int)) 0 (List.take ((List.replicate (zeO f hd.length).toNat (0:Int)).length) (hd:List Int))))
def zm6(f:zy)(pl:Int)(row:zU)(hd:(List Int))(ws:List Int):zw7->Option zxn:=zal (zqb f pl row hd ws)
theorem zpl(f:zy)(pl:Int)(row:zU)(hd:(List Int))(ws:List Int)(l:zw7):zm6 f pl row hd ws l=(zqb f pl row hd ws l).run (zm6 f pl row hd ws):=zE _ l
def ze2(f:zy)(pl:Int)(row:zU)(hd:(List Int))(ws:List Int):Option zxn:=(zAh f pl row hd ws).run (zm6 f pl row hd ws)
theorem zI3(f:zy)(pl:Int)(row:zU)(hd:(List Int))(ws:List Int):Oks 174 [.agg [(zg f.qx),(zg f.qy)],.ref 0 0,(zg pl),.agg (Ty.enc .sQueueRow row),.sl (.i .u32) hd] [.cells 112 [.own 1],.arr 46 (.i .u32) ws] (ze2 f pl row hd ws) zFR:=zL GC1 (H:=H174) zJ Tryz.func174 rfl (by kernel_rfl) (zPu f pl row hd ws) (fun J l=>by cases l <;> kernel_rfl) (fun J=>by kernel_rfl)
abbrev R170:=Int × Int × Int
def zQy(r:R170):Ans:=⟨.tup [(zg r.1),(zg r.2.1),(zg r.2.2)],[]⟩
def zkq(m:(Option ze))(frame:Int)(i:Int):Option R170:=Tree.run0 <|
 .b (zeE m (i64.wrap ((i64.wrap (frame*16))+i))) fun r1=>
 .c (!((r1.2:Int)==0))
 (.r (0,0,r1.2))
 (.c (!((zld r1.1).2.2))
 (.r (0,0,92))
 (.b (zkp m ((zld r1.1).1)) fun r2=>
 .c (!r2)
 (.r (0,0,91))
 (.r ((zld r1.1).1,(zld r1.1).2.1,0))))
theorem zIZ(m:(Option ze))(frame:Int)(i:Int):Oks 170 [.op .sMemMemory m,(zg frame),(zg i)] [] (zkq m frame i) zQy:=zM GC1 (H:=H0) zJ Tryz.func170 rfl (by kernel_rfl) (fun J=>by kernel_rfl)
abbrev R122:=zx
def zPX(r:R122):Ans:=⟨.agg [(zg r.e),(zg r.where_.first),(zg r.where_.second)],[]⟩
def zq2(a:za)(a_1:Int):Option R122:=Tree.run0 <|
 .b (zq3 a a_1) fun r1=>
 .r r1
theorem zBo(a:za)(a_1:Int):Oks 122 [.op .sConfig (some a),.op (.i .i64) (some a_1)] [] (zq2 a a_1) zPX:=zM GC1 (H:=H0) zJ Tryz.func122 rfl (by kernel_rfl) (fun J=>by kernel_rfl)
abbrev R124:=zx
def zPZ(r:R124):Ans:=⟨.agg [(zg r.e),(zg r.where_.first),(zg r.where_.second)],[]⟩
def zq4(a:za)(a_1:Int):Option R124:=Tree.run0 <|
 .b (zq5 a a_1) fun r1=>
 .r r1
theorem zBp(a:za)(a_1:Int):Oks 124 [.op .sConfig (some a),.op (.i .i64) (some a_1)] [] (zq4 a a_1) zPZ:=zM GC1 (H:=H0) zJ Tryz.func124 rfl (by kernel_rfl) (fun J=>by kernel_rfl)
end Go.Proofs.YtgajeebphoiphaaGreatDoor
end
