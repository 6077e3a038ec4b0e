import Derived.Test.YtgajeebphoiphaaGreatDoorU
import Derived.RegionTactic
import Derived.Deep.Quiet
set_option linter.unusedVariables false
set_option linter.unusedSimpArgs false
noncomputable section
namespace Go.Proofs.YtgajeebphoiphaaGreatDoor
abbrev zbI:=List (Nat × Nat × Option Nat)
inductive Blk where
 | cells (e:TypeId) (cs:List AV)
 | row (e:TypeId) (t:Ty) (cols:List (Nat × TypeId)) (hole:zbI) (xs:List t.T)
 | ro (t:Ty) (xs:List t.T)
 | rob (t:Ty) (x:t.T)
 | map (k v:Ty) (cols:List (Nat × TypeId)) (es:List (k.T × v.T))
 | rom (k v:Ty) (es:List (k.T × v.T))
 | dead
abbrev Blk.arr(e:TypeId)(t:Ty)(xs:List t.T):Blk:=.row e t [] [] xs
structure Ans where
 r:AV
 hp:List Blk
structure St where
 env:List AV
 heap:List Blk
 gl:List AV
 np:Nat
 df:List (FuncId × List AV)
 dp:TypeId->List (Nat × TypeId)
inductive Ex where
 | normal | exit (id:Nat) | ret
abbrev Kn:=Ex->St->Option Ans
def St.get(st:St)(t:Nat):AV:=st.env.getD t .undef
def St.set(st:St)(t:Nat)(x:AV):St:={ st with env:=st.env.set t x }
def St.put(st:St)(d:Option Nat)(x:AV):St:=match d with | some t=>st.set t x | none=>st
def zlH:Value->AV
 | .agg cs=>.agg (cs.toList.map .v)
 | x=>.v x
def St.ev(st:St):Operand->AV
 | .tmp t=>st.get t
 | .const x=>zlH x
 | .func f=>.fn (.func f) [] []
 | .global g=>st.gl.getD g .undef
def AV.val1:AV->Option Value
 | .v x=>some x
 | _=>none
def zpL:List AV->Option (List Value)
 | []=>some []
 | x :: r=>match x.val1,zpL r with | some v,some vs=>some (v :: vs) | _,_=>none
def zbU(t:Ty)(x:t.T):AV:=match t.isS with | true=>.agg (t.enc x) | false=>(t.enc x).getD 0 .undef
def rdA(t:Ty)(x:AV):Option t.T:=match t.isS with
 | true=>match x with | .agg cs=>t.dec cs | _=>none
 | false=>match x with | .agg _=>none | .tup _=>none | x=>t.dec [x]
section
variable {K V:Type} (f:K->Option Bool)
def mix:List (K × V)->Option (Option Nat)
 | []=>some none
 | (x,_) :: r=>match f x with
  | some true=>some (some 0)
  | some false=>(mix r).map fun q=>q.map (· + 1)
  | none=>none
def zes(es:List (K × V)):Option (Option V):=(mix f es).map fun q=>match q with | none=>none | some j=>(es[j]?).map (·.2)
def zn5(ow:Bool)(k:K)(v:V)(es:List (K × V)):Option (List (K × V)):=match mix f es with
 | none=>none
 | some none=>some (es++[(k,v)])
 | some (some j)=>match ow with | true=>some (es.set j (k,v)) | false=>none
def zqw(es:List (K × V)):Option (List (K × V)):=(mix f es).map fun q=>match q with | none=>es | some j=>es.eraseIdx j
end
def AV.val:AV->Option Value
 | .v x=>some x
 | .agg cs=>match zpL cs with | some vs=>some (.agg vs.toArray) | none=>none
 | _=>none
def zyu:List AV->Option (List Value)
 | []=>some []
 | x :: r=>match x.val,zyu r with | some v,some vs=>some (v :: vs) | _,_=>none
def zhH:Value->AV
 | .agg cs=>.agg (cs.toList.map .v)
 | x=>.v x
def zeU{α:Type}(P:Program):Sem α->Option α
 | .pure a=>some a
 | .program k=>zeU P (k P)
 | .mark _ k=>zeU P k
 | _=>none
def zkN:AV->Bool
 | .v x=>match x with | .agg _=>false | .tuple _=>false | _=>true
 | .undef=>false
 | .agg _=>false
 | .tup _=>false
 | _=>true
def zl6:List AV->Bool
 | []=>true
 | x :: r=>match zkN x with | true=>zl6 r | false=>false
def AV.cells:AV->Option (List AV)
 | .agg cs=>match zl6 cs with | true=>some cs | false=>none
 | x=>match zkN x with | true=>some [x] | false=>none
def zfz(P:Program)(t:TypeId):Option (Option Nat):=
 match P.underlying t with
 | some (.struct _)=>(P.info? t).map fun i=>some i.size
 | some (.array _ _)=>(P.info? t).map fun i=>some i.size
 | some _=>some none
 | none=>none
def rd(P:Program)(t:TypeId)(cs:List AV)(off:Nat):Option AV:=
 match zfz P t with
 | some none=>cs[off]?
 | some (some n)=>match Nat.ble (off+n) cs.length with | true=>some (.agg ((cs.drop off).take n)) | false=>none
 | none=>none
def zaA:List (Nat × TypeId)->Nat->Option TypeId
 | [],_=>none
 | (c,e) :: r,j=>match Nat.beq c j with | true=>some e | false=>zaA r j
def zmA:List (Nat × TypeId)->Nat->Nat->Bool
 | [],_,_=>true
 | (c,_) :: r,off,n=>match Nat.blt c off || Nat.ble (off+n) c with | true=>zmA r off n | false=>false
def zk4(cols:List (Nat × TypeId)):Nat->List AV->List AV
 | _,[]=>[]
 | j,x :: r=>(match zaA cols j with | some _=>.undef | none=>x) :: zk4 cols (j+1) r
def zbc:AV->Bool
 | .v (.slice none 0 0)=>true
 | _=>false
def zhe:List (Nat × TypeId)->List AV->Bool
 | [],_=>true
 | (c,_) :: r,z=>match zbc (z.getD c .undef)with | true=>zhe r z | false=>false
def zuw(cols:List (Nat × TypeId))(sz:Nat):Nat->List AV->Bool
 | 0,_=>true
 | n+1,cs=>match zhe cols (cs.take sz)with | true=>zuw cols sz n (cs.drop sz) | false=>false
def zhT:List (Nat × TypeId)->List (Nat × TypeId)->Bool
 | [],[]=>true
 | (c,e) :: r,(c',e') :: r'=>match Nat.beq c c',Nat.beq e e' with | true,true=>zhT r r' | _,_=>false
 | _,_=>false
def nth{t:Ty}(xs:List t.T)(i:Nat):t.T:=xs.getD i default
def zO(i:Int)(n:Nat):Bool:=decide (0<=i)&&decide (i<n)
def zfD(t:Ty):Nat->Nat->List t.T->List AV
 | 0,_,_=>[]
 | n+1,j,xs=>t.enc (nth xs j)++zfD t n (j+1) xs
def zjU(t:Ty)(m:Nat)(xs:List t.T):List AV:=zfD t m 0 xs
def zdd(t:Ty):Nat->List AV->Option (List t.T)
 | 0,[]=>some []
 | n+1,cs=>match t.dec (cs.take t.sz),zdd t n (cs.drop t.sz)with | some x,some xs=>some (x :: xs) | _,_=>none
 | _,_=>none
def St.load(P:Program)(st:St)(t:TypeId):AV->Option AV
 | .ref b off=>match st.heap[b]? with | some (.cells _ cs)=>rd P t cs off | some (.rob ty x)=>rd P t (ty.enc x) off | _=>none
 | .op ty (some x)=>rd P t (ty.enc x) 0
 | .el ty xs i off=>rd P t (ty.enc (nth xs i)) off
 | .oel b sz i off=>match st.heap[b]? with
  | some (.row _ ty cols _ xs)=>match Nat.beq ty.sz sz with | true=>rd P t (zk4 cols 0 (ty.enc (nth xs i))) off | false=>none
  | _=>none
 | _=>none
def St.loadX(P:Program)(st:St)(t:TypeId)(b o0:Nat)(ty:Ty)(m i d:Nat):Option AV:=
 match st.heap[b]? with
 | some (.cells _ cs)=>match zdd ty m ((cs.drop o0).take (m*ty.sz))with
  | some xs=>rd P t (ty.enc (nth xs i)) d
  | none=>none
 | _=>none
def AV.add(d:Nat):AV->Option AV
 | .ref b off=>some (.ref b (off+d))
 | .el t xs i off=>some (.el t xs i (off+d))
 | .oel b sz i off=>some (.oel b sz i (off+d))
 | .rex b o0 ty m i d0=>some (.rex b o0 ty m i (d0+d))
 | .op t (some x)=>some (.el t [x] 0 d)
 | _=>none
def ziJ(P:Program)(s:TypeId)(f:Nat):Option Field:=
 match P.underlying s with
 | some (.struct fs)=>fs[f]?
 | _=>none
def wr:List AV->Nat->List AV->Option (List AV)
 | cs,_,[]=>some cs
 | c :: cs,0,x :: xs=>match wr cs 0 xs with | some r=>some (x :: r) | none=>none
 | c :: cs,n+1,xs=>match wr cs n xs with | some r=>some (c :: r) | none=>none
 | [],_,_ :: _=>none
def zgl (place:Nat->Option (Nat × Nat)) (cells:List AV):List (Nat × AV)->Option (List AV)
 | []=>some cells
 | (i,x) :: rest=>match place i with
  | some (off,size)=>match x.cells with
   | some xs=>match Nat.beq xs.length size,Nat.ble (off+xs.length) cells.length,wr cells off xs with
    | true,true,some cs=>zgl place cs rest
    | _,_,_=>none
   | none=>none
  | none=>none
def zeL(st:St):List (Nat × Operand)->List (Nat × AV)
 | []=>[]
 | (i,x) :: r=>(i,st.ev x) :: zeL st r
def zdp(P:Program)(t:TypeId):Option (List AV):=
 match P.info? t with
 | some i=>match i.zero with | some z=>some (z.cells.toList.map .v) | none=>none
 | none=>none
def zvM(P:Program)(t:TypeId):Option (Nat->Option (Nat × Nat)):=
 match P.underlying t with
 | some (.array _ e)=>match P.info? e with | some ie=>some fun i=>some (i*ie.size,ie.size) | none=>none
 | some (.struct fields)=>match fields.toList.mapM (fun f=>(P.info? f.type).map fun i=>(f.offset,i.size))with | some places=>some (places.toArray[·]?) | none=>none
 | _=>none
def zmy(f:AV->Option AV):List AV->Option (List AV)
 | []=>some []
 | x :: r=>match f x,zmy f r with | some y,some ys=>some (y :: ys) | _,_=>none
def St.snap (st:St):Nat->AV->Option AV
 | 0,_=>none
 | n+1,x=>match x with
  | .v y=>some (.v y)
  | .sl t xs=>some (.sl t xs)
  | .op t x=>some (.op t x)
  | .clo c=>some (.clo c)
  | .any=>some .any
  | .el t xs i 0=>some (.op t (some (nth xs i)))
  | .own b=>match st.heap[b]? with | some (.row _ t _ [] xs)=>some (.sl t xs) | some (.ro t xs)=>some (.sl t xs) | _=>none
  | .mp k v es=>some (.mp k v es)
  | .om b=>match st.heap[b]? with | some (.map k v _ es)=>some (.mp k v es) | some (.rom k v es)=>some (.mp k v es) | _=>none
  | .ref b 0=>match st.heap[b]? with
   | some (.cells e cs)=>match zdQ e,zmy (st.snap n) cs with
    | some t,some cs'=>match t.dec cs' with | some s=>some (.op t (some s)) | none=>none
    | _,_=>none
   | some (.rob t x)=>some (.op t (some x))
   | _=>none
  | .agg cs=>match zmy (st.snap n) cs with | some cs'=>some (.agg cs') | none=>none
  | .fn f a c=>match zmy (st.snap n) a,zmy (st.snap n) c with | some a',some c'=>some (.fn f a' c') | _,_=>none
  | .ifc t x=>match st.snap n x with | some x'=>some (.ifc t x') | none=>none
  | _=>none
def zAZ(f:AV->Option Value):List AV->Option (List Value)
 | []=>some []
 | x :: r=>match f x,zAZ f r with | some y,some ys=>some (y :: ys) | _,_=>none
def AV.full:Nat->AV->Option Value
 | 0,_=>none
 | n+1,x=>match x with
  | .v y=>some y
  | .agg cs=>match zAZ (AV.full n) cs with | some l=>some (.agg l.toArray) | none=>none
  | .tup cs=>match zAZ (AV.full n) cs with | some l=>some (.tuple l.toArray) | none=>none
  | .fn f a c=>match zAZ (AV.full n) a,zAZ (AV.full n) c with | some l,some l'=>some (.func f l.toArray l'.toArray) | _,_=>none
  | .ifc t x=>match x.full n with | some y=>some (.iface t y) | none=>none
  | _=>none
def AV.noF:Nat->AV->Bool
 | 0,_=>false
 | n+1,x=>match x with
  | .v _=>true
  | .any=>true
  | .ref _ _=>true
  | .own _=>true
  | .om _=>true
  | .agg cs=>cs.all (AV.noF n)
  | .tup cs=>cs.all (AV.noF n)
  | .fn _ a c=>a.all (AV.noF n)&&c.all (AV.noF n)
  | .ifc _ x=>x.noF n
  | _=>false
def zoL:Option TypeId->Ty->Bool
 | some _,.sl t=>t.flat
 | some _,_=>false
 | none,.sl _=>false
 | none,.p _=>false
 | none,.f=>false
 | none,.m _ _=>false
 | none,_=>true
def zse(cols:List (Nat × TypeId)):Nat->List Ty->Bool
 | _,[]=>true
 | j,l :: r=>match zoL (zaA cols j) l with
  | true=>zse cols (j+1) r
  | false=>false
def mapF:Option TypeId->Ty->Bool
 | none,v=>v.flat
 | some _,.sl t=>t.flat
 | some _,_=>false
def Blk.noF:Blk->Bool
 | .cells _ cs=>cs.all (AV.noF 9)
 | .row _ t cols _ _=>zse cols 0 t.leaves
 | .ro _ _=>false
 | .rob _ _=>false
 | .map k v cols _=>k.flat&&mapF (zaA cols 0) v
 | .rom _ _ _=>false
 | .dead=>true
def zoW(P:Program)(t:TypeId)(cs:Array Value)(off:Nat):Option Value:=
 match zfz P t with
 | some none=>cs[off]?
 | some (some n)=>some (.agg (cs.extract off (off+n)))
 | none=>none
def zAu (f:TypeId->Value->Value->Option Bool) (P:Program) (xs ys:Array Value):List Field->Option Bool
 | []=>some true
 | fl :: r=>match fl.name == "_" with
  | true=>zAu f P xs ys r
  | false=>match zoW P fl.type xs fl.offset,zoW P fl.type ys fl.offset with
   | some a,some b=>match f fl.type a b,zAu f P xs ys r with
    | some p,some q=>some (p&&q)
    | _,_=>none
   | _,_=>none
def zDu(f:TypeId->Value->Value->Option Bool)(P:Program)(e:TypeId)(n:Nat)(xs ys:Array Value):List Nat->Option Bool
 | []=>some true
 | i :: r=>match zoW P e xs (i*n),zoW P e ys (i*n)with
  | some a,some b=>match f e a b,zDu f P e n xs ys r with
   | some p,some q=>some (p&&q)
   | _,_=>none
  | _,_=>none
def eqV(P:Program):Nat->TypeId->Value->Value->Option Bool
 | 0,_,_,_=>none
 | d+1,t,x,y=>match P.underlying t,x,y with
  | some .bool,.bool a,.bool b=>some (a==b)
  | some (.int _),.int k a,.int k' b=>match decEq k k' with | isTrue _=>some (a==b) | isFalse _=>none
  | some .string,.string a,.string b=>some (a.toList==b.toList)
  | some (.struct fs),.agg xs,.agg ys=>match P.stoodInHeld t with | false=>zAu (eqV P d) P xs ys fs.toList | true=>none
  | some (.array n e),.agg xs,.agg ys=>match P.info? e with | some i=>zDu (eqV P d) P e i.size xs ys (List.range n) | none=>none
  | _,_,_=>none
def AV.isNil:AV->Option Bool
 | .ref _ _=>some false
 | .el _ _ _ _=>some false
 | .oel _ _ _ _=>some false
 | .rex _ _ _ _ _ _=>some false
 | .op _ x=>some x.isNone
 | _=>none
def zvJ(P:Program)(op:BinOp)(t:TypeId)(x:AV):Option AV:=
 match op,P.underlying t,x.isNil with
 | .eql,some (.pointer _),some b=>some (.v (.bool b))
 | .neq,some (.pointer _),some b=>some (.v (.bool (!b)))
 | _,_,_=>none
def evQ(P:Program)(st:St)(o:Oper):Option AV:=
 match o.op with
 | .move x=>some (st.ev x)
 | .assign x=>some (st.ev x)
 | .load t a=>st.load P t (st.ev a)
 | .binOp op t x y _=>match(st.ev x).val,(st.ev y).val with
  | some (.agg xs),some (.agg ys)=>match op,P.eqGuardType P.depth t,eqV P 10000 t (.agg xs) (.agg ys)with
   | .eql,false,some b=>some (.v (.bool b))
   | .neq,false,some b=>some (.v (.bool (!b)))
   | _,_,_=>none
  | some a,some b=>(zeU P (do eqGuard op t x y a b;binOp op t a b)).map zhH
  | none,some (.pointer none)=>zvJ P op t (st.ev x)
  | some (.pointer none),none=>zvJ P op t (st.ev y)
  | _,_=>none
 | .unOp op _ x=>match(st.ev x).val with
  | some a=>(zeU P (Op.unary op a)).map zhH
  | none=>none
 | .convert s d x=>match(st.ev x).val with
  | some a=>(zeU P (convert s d a)).map zhH
  | none=>none
 | .fieldAddr s x f=>match ziJ P s f with
  | some fl=>match P.cellsOf fl.type with | 0=>none | _+1=>(st.ev x).add fl.offset
  | none=>none
 | .field s x f=>match ziJ P s f,st.ev x with
  | some fl,.agg cs=>rd P fl.type cs fl.offset
  | _,_=>none
 | .extract x i=>match st.ev x with
  | .tup vs=>vs[i]?
  | _=>none
 | .build t parts=>match zvM P t,zdp P t with
  | some pl,some z=>(zgl pl z (zeL st parts.toList)).map .agg
  | _,_=>none
 | .makeFunc f a c=>some (.fn f (a.toList.map st.ev) (c.toList.map st.ev))
 | .makeInterface t x=>match P.underlying t with
  | some (.interface _)=>none
  | some _=>some (.ifc t (st.ev x))
  | none=>none
 | _=>none
def St.mapOf(st:St)(k v:Ty):AV->Option (List (k.T × v.T) × Bool)
 | .mp k' v' es=>(zgo k v k' v' es).map fun l=>(l,true)
 | .om b=>match st.heap[b]? with | some (.map k' v' cols es)=>(zgo k v k' v' es).map fun l=>(l,cols.isEmpty) | some (.rom k' v' es)=>(zgo k v k' v' es).map fun l=>(l,true) | _=>none
 | .v (.map none)=>some ([],true)
 | _=>none
def flA(fl:Bool)(x:AV):AV:=match fl with | true=>x | false=>.undef
def zr9(P:Program)(kt:TypeId)(x:AV):Option Value:=match x.val with
 | some v=>match zeU P (Instr.checkKey true 10000 kt v),zeU P (Instr.checkKey false 10000 kt v)with | some _,some _=>some v | _,_=>none
 | none=>none
def zdE(P:Program)(kt:TypeId)(k:Ty)(kv:Value)(x:k.T):Option Bool:=match(zbU k x).val with | some vx=>eqV P 10000 kt kv vx | none=>none
def zwE(P:Program)(t:TypeId)(k:Ty):Option k.T:=match P.info? t with
 | some i=>match i.zero with | some z=>rdA k (zhH z) | none=>none
 | none=>none
def zj3(P:Program)(kt:TypeId):Bool:=match P.underlying kt with | some (.int _)=>true | some .bool=>true | _=>false
def zAw(P:Program)(st:St)(t:TypeId)(x:AV):Option AV:=
 match x with
 | .mp _ _ es=>match P.underlying t with | some (.map _ _)=>some (.v (.int .i64 es.length)) | _=>none
 | .om b=>match P.underlying t,st.heap[b]? with | some (.map _ _),some (.map _ _ _ es)=>some (.v (.int .i64 es.length)) | some (.map _ _),some (.rom _ _ es)=>some (.v (.int .i64 es.length)) | _,_=>none
 | .sl _ xs=>match P.underlying t with | some (.slice _)=>some (.v (.int .i64 xs.length)) | _=>none
 | .own b=>match P.underlying t,st.heap[b]? with | some (.slice _),some (.row _ _ _ _ xs)=>some (.v (.int .i64 xs.length)) | some (.slice _),some (.ro _ xs)=>some (.v (.int .i64 xs.length)) | _,_=>none
 | .vw _ _ _ n=>match P.underlying t with | some (.slice _)=>some (.v (.int .i64 n)) | _=>none
 | .v a=>(zeU P (Builtin.len_ #[t] 0 #[a])).map zhH
 | _=>none
inductive Cal where
 | f (n:FuncId) | c (x:Clo) | a (n:FuncId)
structure Rsp where
 R:Type
 o:Option R
 to:R->Ans
 d:R
abbrev Gam:=Cal->List AV->List Blk->Option Rsp
def orB{R α:Type}(o:Option R)(k:R->Option α)(z:Option α):Option α:=match o with | some r=>k r | none=>z
def zdF(P:Program)(t:TypeId)(name:String):Option FuncId:=
 match P.info? t,P.underlying t with
 | some i,some (.struct _)=>match i.methods.find? (·.name==name)with
  | some m=>match m.path.isEmpty,m.func with
   | true,some (f,false)=>some f
   | _,_=>none
  | none=>none
 | _,_=>none
def target(P:Program):AV->List AV->Option (Cal × List AV)
 | .fn (.func f) first cap,as=>some (.f f,first++as++cap)
 | .fn (.via t p f ptr) [x] [],as=>match p.isEmpty,P.underlying t,ptr with
  | true,some (.pointer _),true=>some (.f f,x :: as)
  | true,some (.pointer _),false=>none
  | true,some _,false=>some (.f f,x :: as)
  | _,_,_=>none
 | .clo c,as=>some (.c c,as)
 | .fn (.method nm) [.ifc t x] [],as=>(match zdF P t nm with | some f=>some (.f f,x :: as) | none=>none)
 | _,_=>none
def bnd(st:St)(x:Option Operand)(d:Nat):Option Int:=
 match x with
 | none=>some d
 | some x=>match st.ev x with | .v (.int _ n)=>some n | _=>none
def inS(l h:Int)(n:Nat):Bool:=decide (0<=l)&&decide (l<=h)&&decide (h<=n)
def dv(op:BinOp)(k:IntKind)(a b:Int):Int:=match op with | .quo=>k.wrap (a.tdiv b) | _=>a.tmod b
def isDv:BinOp->Bool | .quo=>true | .rem=>true | _=>false
def zFi(P:Program)(t:TypeId):Bool:=match P.underlying t,zfz P t,P.cellsOf t with | some (.func ..),some none,1=>true | _,_,_=>false
def zmF{α:Type}(n:Nat):Nat->List AV->(AV->Option α)->Option α
 | _,[],_=>none
 | j,c :: r,k=>cond (Nat.beq n j) (k c) (zmF n (j+1) r k)
def evT {α:Type} (P:Program) (st:St) (o:Oper) (k:AV->Option α):Option α:=
 match o.op with
 | .pick c a b=>match st.ev c with
  | .v (.bool t)=>cond t (k (st.ev a)) (k (st.ev b))
  | _=>none
 | .nilCheck x=>match st.ev x with
  | .ref b off=>k (.ref b off)
  | .el t xs i off=>k (.el t xs i off)
  | .oel b sz i off=>k (.oel b sz i off)
  | .rex b o0 ty m i d=>k (.rex b o0 ty m i d)
  | .fn (.func f) a c=>k (.fn (.func f) a c)
  | .fn (.method nm) [.ifc t x] []=>(match zdF P t nm with | some _=>k (.fn (.method nm) [.ifc t x] []) | none=>none)
  | .op t y=>cond y.isSome (k (.el t [y.getD default] 0 0)) none
  | _=>none
 | .indexAddr t x i=>match P.underlying t,st.ev x,st.ev i with
  | some (.slice e),.sl ty xs,.v (.int _ n)=>match Nat.beq (P.cellsOf e) ty.sz with
   | true=>cond (zO n xs.length) (k (.el ty xs n.toNat 0)) none
   | false=>none
  | some (.slice e),.own b,.v (.int _ n)=>match st.heap[b]? with
   | some (.row _ ty _ _ xs)=>match Nat.beq (P.cellsOf e) ty.sz with
    | true=>cond (zO n xs.length) (k (.oel b ty.sz n.toNat 0)) none
    | false=>none
   | some (.ro ty xs)=>match Nat.beq (P.cellsOf e) ty.sz with
    | true=>cond (zO n xs.length) (k (.el ty xs n.toNat 0)) none
    | false=>none
   | _=>none
  | some (.slice e),.vw b sz o m,.v (.int _ n)=>match Nat.beq (P.cellsOf e) sz&&Nat.blt 0 sz with
   | true=>cond (zO n m) (k (.oel b sz (o+n.toNat) 0)) none
   | false=>none
  | some (.array m e),.ref b off,.v (.int _ n)=>match zdQ e with
   | some ty=>match Nat.beq (P.cellsOf e) ty.sz with
    | true=>cond (zO n m) (k (.rex b off ty m n.toNat 0)) none
    | false=>none
   | none=>none
  | _,_,_=>none
 | .index t x i=>match P.underlying t,st.ev x,st.ev i with
  | some .string,.v (.string s),.v (.int _ n)=>cond (zO n s.size) (k (.v (.int .u8 (((s.data.getD n.toNat 0).toNat:Nat):Int)))) none
  | some (.array m e),.agg cs,.v (.int _ n)=>match zFi P e&&Nat.beq cs.length m with
   | true=>cond (zO n m) (zmF n.toNat 0 cs k) none
   | false=>match zdQ e with
    | some ty=>match zdd ty m cs with
     | some xs=>match rd P e (ty.enc (nth xs n.toNat)) 0,Nat.beq (P.cellsOf e) ty.sz with
      | some r,true=>cond (zO n m) (k r) none
      | _,_=>none
     | none=>none
    | none=>none
  | _,_,_=>none
 | .slice t x lo hi none=>match st.ev x with
  | .sl ty xs=>match P.underlying t,bnd st lo 0,bnd st hi xs.length with
   | some (.slice e),some l,some h=>match Nat.beq (P.cellsOf e) ty.sz with
    | true=>cond (inS l h xs.length) (k (.sl ty ((xs.take h.toNat).drop l.toNat))) none
    | false=>none
   | _,_,_=>none
  | .v (.string s)=>match P.underlying t,bnd st lo 0,bnd st hi s.size with
   | some .string,some l,some h=>cond (inS l h s.size) (k (.v (.string (s.extract l.toNat h.toNat)))) none
   | _,_,_=>none
  | _=>none
 | .call { callee:=.builtin .len,args,argTypes }=>match args.toList,argTypes.toList with
  | [x],[t]=>match zAw P st t (st.ev x)with | some r=>k r | none=>none
  | _,_=>none
 | .call { callee:=.builtin .min,args,argTypes }=>match zyu (args.toList.map st.ev)with
  | some vs=>match zeU P (Builtin.min_ argTypes o.type vs.toArray)with | some r=>k (zhH r) | none=>none
  | none=>none
 | .call { callee:=.builtin .max,args,argTypes }=>match zyu (args.toList.map st.ev)with
  | some vs=>match zeU P (Builtin.max_ argTypes o.type vs.toArray)with | some r=>k (zhH r) | none=>none
  | none=>none
 | .binOp op t x y _=>match st.ev x,st.ev y with
  | .sl ty xs,.v (.slice none 0 0)=>match op,P.underlying t with
   | .eql,some (.slice _)=>cond (Nat.beq xs.length 0) none (k (.v (.bool false)))
   | .neq,some (.slice _)=>cond (Nat.beq xs.length 0) none (k (.v (.bool true)))
   | _,_=>none
  | .v (.int ka a),.v (.int kb b)=>match isDv op,decide (ka=kb)with
   | true,true=>cond (decide (b=0)) none (k (.v (.int ka (dv op ka a b))))
   | _,_=>match evQ P st o with | some r=>k r | none=>none
  | _,_=>match evQ P st o with | some r=>k r | none=>none
 | .load t a=>match st.ev a with
  | .rex b o0 ty m i d=>match st.loadX P t b o0 ty m i d with | some r=>k r | none=>none
  | _=>match evQ P st o with | some r=>k r | none=>none
 | .lookup t m x ok=>match P.underlying t with
  | some (.map kt vt)=>match zdQ kt,zdQ vt,zr9 P kt (st.ev x)with
   | some kk,some kv,some y=>match st.mapOf kk kv (st.ev m),zwE P vt kv with
    | some (es,fl),some z0=>orB (zes (zdE P kt kk y) es) (fun r=>k (match ok with | true=>.tup [flA fl (zbU kv (r.getD z0)),.v (.bool r.isSome)] | false=>flA fl (zbU kv (r.getD z0)))) none
    | _,_=>none
   | _,_,_=>none
  | _=>none
 | _=>match evQ P st o with | some r=>k r | none=>none
def St.frz1(st:St):AV->Option (AV × St)
 | .own b=>match st.heap[b]? with
  | some (.row _ t _ [] xs)=>some (.sl t xs,{ st with heap:=st.heap.set b (.ro t xs) })
  | some (.ro t xs)=>some (.sl t xs,st)
  | _=>none
 | .om b=>match st.heap[b]? with
  | some (.map k v _ es)=>some (.mp k v es,{ st with heap:=st.heap.set b (.rom k v es) })
  | some (.rom k v es)=>some (.mp k v es,st)
  | _=>none
 | .agg _=>none
 | .tup _=>none
 | x=>some (x,st)
def ziX(f:St->AV->Option (AV × St)):St->List AV->Option (List AV × St)
 | st,[]=>some ([],st)
 | st,x :: r=>match f st x with
  | some (y,st1)=>match ziX f st1 r with | some (ys,st2)=>some (y :: ys,st2) | none=>none
  | none=>none
def St.frz(st:St):AV->Option (AV × St)
 | .agg cs=>match ziX St.frz1 st cs with | some (ys,st1)=>some (.agg ys,st1) | none=>none
 | x=>st.frz1 x
def St.frzArgs(st:St)(l:List AV):Option (List AV × St):=ziX St.frz st l
def St.frzD:Nat->St->AV->Option (AV × St)
 | 0,_,_=>none
 | n + 1,st,x=>match x with
  | .own b=>st.frz1 (.own b)
  | .om b=>st.frz1 (.om b)
  | .mp k v es=>some (.mp k v es,st)
  | .ref b 0=>match st.heap[b]? with
   | some (.cells e cs)=>match zdQ e,ziX (St.frzD n) st cs with
    | some t,some (cs',st1)=>match t.dec cs',st1.heap[b]? with
     | some y,some (.cells _ _)=>some (.op t (some y),{ st1 with heap:=st1.heap.set b (.rob t y) })
     | _,_=>none
    | _,_=>none
   | some (.rob t y)=>some (.op t (some y),st)
   | _=>none
  | .agg cs=>match ziX (St.frzD n) st cs with | some (cs',st1)=>some (.agg cs',st1) | none=>none
  | .fn f a c=>match ziX (St.frzD n) st a with
   | some (a',st1)=>match ziX (St.frzD n) st1 c with | some (c',st2)=>some (.fn f a' c',st2) | none=>none
   | none=>none
  | .v y=>some (.v y,st)
  | .sl t xs=>some (.sl t xs,st)
  | .op t y=>some (.op t y,st)
  | .el t xs i off=>some (.el t xs i off,st)
  | .clo c=>some (.clo c,st)
  | .any=>some (.any,st)
  | _=>none
def St.frzs(st:St)(l:List AV):Option (List AV × St):=ziX (St.frzD 9) st l
def St.mapVal (st:St) (b:Nat) (cols:List (Nat × TypeId)) (v:Ty) (y:AV):Option (v.T × St):=
 match zaA cols 0 with
 | none=>match St.frzD 9 st y with
  | some (y1,st1)=>match rdA v y1 with | some x=>some (x,st1) | none=>none
  | none=>none
 | some e=>match y with
  | .own n=>match Nat.beq n b,st.heap[n]? with
   | false,some (.row e2 t' [] [] zs)=>match Nat.beq e2 e,rdA v (.sl t' zs)with
    | true,some x=>some (x,{ st with heap:=st.heap.set n .dead })
    | _,_=>none
   | _,_=>none
  | _=>none
def zfa(t t':Ty)(xs:List t'.T):Option (List t.T):=match decEq t' t with | isTrue h=>some (h ▸ xs) | isFalse _=>none
def St.src(st:St)(t:Ty):AV->Option (List t.T)
 | .sl t' xs=>zfa t t' xs
 | .own b=>match st.heap[b]? with | some (.row _ t' [] [] xs)=>zfa t t' xs | some (.ro t' xs)=>zfa t t' xs | _=>none
 | .v (.slice _ 0 _)=>some []
 | _=>none
def St.base(st:St)(e:TypeId)(t:Ty)(cols:List (Nat × TypeId)):AV->Option (List t.T × St)
 | .own b=>match st.heap[b]? with
  | some (.row e' t' cols' [] xs)=>match Nat.beq e' e&&zhT cols' cols,zfa t t' xs with | true,some xs=>some (xs,{ st with heap:=st.heap.set b .dead }) | _,_=>none
  | _=>none
 | .v (.slice none 0 0)=>some ([],st)
 | _=>none
def St.srcD(st:St)(e:TypeId)(t:Ty)(cols:List (Nat × TypeId)):AV->Option (List t.T × St)
 | .own b=>match st.heap[b]? with
  | some (.row e' t' cols' [] xs)=>match Nat.beq e' e&&zhT cols' cols,zfa t t' xs with | true,some xs=>some (xs,{ st with heap:=st.heap.set b .dead }) | _,_=>none
  | _=>none
 | _=>none
def St.rowOf(st:St)(e:TypeId)(t:Ty)(xs:List t.T):Blk:=.row e t (st.dp e) [] xs
def leB(a b:Nat):Bool:=Nat.ble a b
def St.push(st:St)(k:Blk)(d:Option Nat):St:=({ st with heap:=st.heap++[k] }:St).put d (.own st.heap.length)
def idx(l:List Nat)(b:Nat):Option Nat:=match l with
 | []=>none
 | x :: r=>match Nat.beq x b with | true=>some 0 | false=>match idx r b with | some j=>some (j+1) | none=>none
def AV.mapB(s:Nat->Option Nat):Nat->AV->AV
 | 0,_=>.undef
 | n+1,x=>match x with
  | .ref b off=>match s b with | some j=>.ref j off | none=>.undef
  | .own b=>match s b with | some j=>.own j | none=>.undef
  | .om b=>match s b with | some j=>.om j | none=>.undef
  | .oel b sz i off=>match s b with | some j=>.oel j sz i off | none=>.undef
  | .rex b o0 ty m i d=>match s b with | some j=>.rex j o0 ty m i d | none=>.undef
  | .vw b sz o m=>match s b with | some j=>.vw j sz o m | none=>.undef
  | .agg cs=>.agg (cs.map (AV.mapB s n))
  | .tup cs=>.tup (cs.map (AV.mapB s n))
  | .fn f a c=>.fn f (a.map (AV.mapB s n)) (c.map (AV.mapB s n))
  | .ifc t x=>.ifc t (x.mapB s n)
  | x=>x
def ziQ(s:Nat->Option Nat):Nat × Nat × Option Nat->Nat × Nat × Option Nat
 | (i,j,some n)=>(match s n with | some m=>(i,j,some m) | none=>(i+1,j,none))
 | (i,j,none)=>(i,j,none)
def Blk.mapB(s:Nat->Option Nat):Blk->Blk
 | .cells e cs=>.cells e (cs.map (AV.mapB s 9))
 | .row e t cols hole xs=>.row e t cols (hole.map (ziQ s)) xs
 | x=>x
def AV.roots:Nat->AV->List Nat
 | 0,_=>[]
 | n+1,x=>match x with
  | .ref b _=>[b]
  | .own b=>[b]
  | .om b=>[b]
  | .oel b _ _ _=>[b]
  | .rex b _ _ _ _ _=>[b]
  | .vw b _ _ _=>[b]
  | .agg cs=>cs.flatMap (AV.roots n)
  | .tup cs=>cs.flatMap (AV.roots n)
  | .fn _ a c=>a.flatMap (AV.roots n)++c.flatMap (AV.roots n)
  | .ifc _ x=>x.roots n
  | _=>[]
def zbT(l:List AV):List Nat:=l.flatMap (AV.roots 9)
def zfH(b:Nat):List Nat->Bool
 | []=>false
 | x :: r=>match Nat.beq x b with | true=>true | false=>zfH b r
def zcZ(hp:List Blk):Nat->List Nat->List Nat->List Nat
 | 0,done,_=>done
 | _+1,done,[]=>done
 | n+1,done,b :: r=>match zfH b done with
  | true=>zcZ hp n done r
  | false=>match hp[b]? with
   | some (.cells _ cs)=>zcZ hp n (done++[b]) (zbT cs++r)
   | some _=>zcZ hp n (done++[b]) r
   | none=>zcZ hp n done r
def zke:List Blk->List Nat
 | []=>[]
 | .cells _ cs :: r=>zbT cs++zke r
 | _ :: r=>zke r
def zgs:List Nat->Bool
 | []=>true
 | x :: r=>match zfH x r with | true=>false | false=>zgs r
def zbE(hp:List Blk)(ids:List Nat):List Blk:=ids.map fun b=>(hp.getD b .dead).mapB (idx ids)
def St.sub(st:St)(ids:List Nat):St:=
 { st with env:=st.env.map (AV.mapB (idx ids) 9),heap:=zbE st.heap ids,df:=st.df.map fun(f,as)=>(f,as.map (AV.mapB (idx ids) 9)) }
def zjH(ids:List Nat)(n:Nat)(j:Nat):Option Nat:=match Nat.blt j ids.length with | true=>ids[j]? | false=>some (n+(j-ids.length))
def zfN(hp:List Blk):List Nat->List Blk->List Blk
 | b :: ids,k :: ks=>zfN (hp.set b k) ids ks
 | _,_=>hp
def St.adopt(st:St)(ids:List Nat)(hp:List Blk):St:=
 let s:=zjH ids st.heap.length
 { st with heap:=zfN st.heap ids ((hp.take ids.length).map (Blk.mapB s))++(hp.drop ids.length).map (Blk.mapB s) }
def zDv(G:Gam)(st:St)(f:Cal)(as:List AV):Bool:=
 let ids:=zcZ st.heap 4000 [] (zbT as)
 match G f (as.map (AV.mapB (idx ids) 9)) (zbE st.heap ids)with
 | some _=>true
 | none=>false
def St.mixA(st:St):AV->AV
 | .own b=>match st.heap[b]? with | some (.row _ t _ [] xs)=>.sl t xs | _=>.own b
 | x=>x
def St.mixG(st:St):AV->AV
 | .agg cs=>.agg (cs.map st.mixA)
 | x=>x
def zHZ(ids:List Nat):AV->Bool
 | .own b=>!zfH b ids
 | _=>true
def mixH(ids:List Nat):AV->Bool
 | .agg cs=>cs.all (zHZ ids)
 | _=>true
def zxU(n:Nat)(an:Ans):Bool:=an.r.noF 9&&an.hp.all Blk.noF&&Nat.ble n an.hp.length
def zqp(g:AV->AV)(q:List Nat->AV->Bool)(G:Gam)(st:St)(f:Cal)(as:List AV):Option (Rsp × List Nat):=
 let as1:=as.map g
 let ids:=zcZ st.heap 4000 [] (zbT as1)
 match zgs ids&&ids.all (fun b=>Nat.blt b st.heap.length)&&as.all (q ids),G f (as1.map (AV.mapB (idx ids) 9)) (zbE st.heap ids)with
 | true,some y=>match zxU ids.length (y.to y.d)with
  | true=>some (y,ids)
  | false=>none
 | _,_=>none
def zAx(G:Gam)(st:St)(f:Cal)(as:List AV):Option (Rsp × List Nat):=
 match zqp st.mixG mixH G st f as with
 | some y=>some y
 | none=>zqp st.mixA zHZ G st f as
def evCall1 {α:Type} (G:Gam) (st:St) (f:Cal) (as:List AV) (k:AV->St->Option α) (z:Option α):Option α:=
 match(match zmy (st.snap 9) as with
  | some as1=>match G f as1 []with
   | some y=>match zxU 0 (y.to y.d)with
    | true=>some y
    | false=>none
   | none=>none
  | none=>none)with
 | some y=>orB y.o (fun x=>match zxU 0 (y.to x)with | true=>k ((y.to x).r.mapB (zjH [] st.heap.length) 9) (st.adopt [] (y.to x).hp) | false=>none) z
 | none=>match zDv G st f as with
  | true=>evPass G st (zcZ st.heap 4000 [] (zbT as)) f as k z
  | false=>match zAx G st f as with
   | some (y,ids)=>orB y.o (fun x=>match zxU ids.length (y.to x)with | true=>k ((y.to x).r.mapB (zjH ids st.heap.length) 9) (st.adopt ids (y.to x).hp) | false=>none) z
   | none=>match st.frzArgs as with
    | some (as2,st2)=>evPass G st2 (zcZ st2.heap 4000 [] (zbT as2)) f as2 k z
    | none=>none
 where evPass (G:Gam) (st:St) (ids:List Nat) (f:Cal) (as:List AV) (k:AV->St->Option α) (z:Option α):Option α:=
 match zgs ids&&ids.all (fun b=>Nat.blt b st.heap.length),G f (as.map (AV.mapB (idx ids) 9)) (zbE st.heap ids)with
 | true,some y=>orB y.o (fun x=>match Nat.ble ids.length (y.to x).hp.length with | true=>k ((y.to x).r.mapB (zjH ids st.heap.length) 9) (st.adopt ids (y.to x).hp) | false=>none) z
 | _,_=>none
def zEB:Cal->Option Cal
 | .f n=>match zfH n zGZ with | true=>some (.a n) | false=>none
 | _=>none
def zeW{α:Type}(G:Gam)(st:St)(f:Cal)(as:List AV)(k:AV->St->Option α):Option α:=
 evCall1 G st f as k (match zEB f with | some f'=>evCall1 G st f' as k none | none=>none)
def noS(j:Nat):zbI->Bool
 | []=>true
 | (_,_,none) :: r=>noS j r
 | (_,c,some _) :: r=>match Nat.beq c j with | true=>false | false=>noS j r
def zhE(c i:Nat):zbI->Bool
 | []=>true
 | (k,c',none) :: r=>match Nat.beq c' c with | true=>Nat.ble k i&&zhE c i r | false=>zhE c i r
 | (_,_,some _) :: r=>zhE c i r
def zds(i off m:Nat)(hole:zbI):List (Nat × TypeId)->Bool
 | []=>true
 | (c,_) :: r=>match Nat.ble off c&&Nat.blt c (off+m)with | true=>zhE c i hole&&zds i off m hole r | false=>zds i off m hole r
def ziV(c:Nat):zbI->Nat
 | []=>0
 | (k,c',none) :: r=>match Nat.beq c' c with | true=>Nat.max k (ziV c r) | false=>ziV c r
 | (i,c',some _) :: r=>match Nat.beq c' c with | true=>Nat.max (i+1) (ziV c r) | false=>ziV c r
def zmM(c:Nat):zbI->zbI
 | []=>[]
 | (i,c',o) :: r=>match Nat.beq c' c with | true=>zmM c r | false=>(i,c',o) :: zmM c r
def zEC (ty:Ty) (cols:List (Nat × TypeId)) (hp:List Blk) (xs:List ty.T) (i j:Nat):Option Nat->Option (Nat × ty.T)
 | some n=>match hp[n]?,zaA cols j with
  | some (.row e2 t' [] [] zs),some e3=>match Nat.beq e2 e3,wr (ty.enc (nth xs i)) j [.sl t' zs]with
   | true,some cs'=>match ty.dec cs' with
    | some y=>some (n,y)
    | none=>none
   | _,_=>none
  | _,_=>none
 | none=>none
def zhh(b:Nat)(e:TypeId)(ty:Ty)(cols:List (Nat × TypeId)):zbI->zbI->List ty.T->List Blk->List Blk
 | [],_,_,hp=>hp
 | (i,j,o) :: r,pre,xs,hp=>match zEC ty cols hp xs i j o with
  | some (n,y)=>zhh b e ty cols r pre (xs.set i y) ((hp.set n .dead).set b (.row e ty cols (pre++r) (xs.set i y)))
  | none=>zhh b e ty cols r (pre++[(i,j,o)]) xs hp
def zk2(hp:List Blk)(b:Nat):List Blk:=
 match hp[b]? with
 | some (.row e ty cols hole xs)=>zhh b e ty cols hole [] xs hp
 | _=>hp
def lkN:List (Nat × Nat)->Nat->Option Nat
 | [],_=>none
 | (c,n) :: r,j=>match Nat.beq c j with | true=>some n | false=>lkN r j
def znM(b:Nat)(e:TypeId)(ty:Ty)(cols:List (Nat × TypeId))(xs:List ty.T)(i off m:Nat):List (Nat × TypeId)->zbI->List (Nat × Nat)->List Blk->Option (List Blk × List (Nat × Nat))
 | [],_,as,hp=>some (hp,as)
 | (c,_) :: r,hole,as,hp=>match Nat.ble off c&&Nat.blt c (off+m)with
  | true=>match noS c hole,zaA cols c,(ty.enc (nth xs i)).getD c .undef with
   | true,some e',.sl t' ys=>znM b e ty cols xs i off m r ((i,c,some hp.length) :: hole) ((c,hp.length) :: as) (hp.set b (.row e ty cols ((i,c,some hp.length) :: hole) xs)++[.row e' t' [] [] ys])
   | _,_,_=>none
  | false=>znM b e ty cols xs i off m r hole as hp
def zkZ(cols:List (Nat × TypeId))(as:List (Nat × Nat)):Nat->List AV->List AV
 | _,[]=>[]
 | j,x :: r=>(match zaA cols j with | some _=>(match lkN as j with | some n=>.own n | none=>.undef) | none=>x) :: zkZ cols as (j+1) r
def zjY {α:Type} (P:Program) (st:St) (o:Oper) (t:TypeId) (b sz i off:Nat) (k:St->Option α):Option α:=
 match st.heap[b]? with
 | some (.row _ _ (c0 :: cs) _ _)=>match zmA (c0 :: cs) off (P.cellsOf t)with
  | true=>evT P st o fun x=>k (st.put o.dst x)
  | false=>match(zk2 st.heap b)[b]? with
   | some (.row e ty cols hole xs)=>match Nat.beq ty.sz sz,znM b e ty cols xs i off (P.cellsOf t) cols hole [] (zk2 st.heap b)with
    | true,some (hp,as)=>match rd P t (zkZ cols as 0 (ty.enc (nth xs i))) off with
     | some r=>cond (zds i off (P.cellsOf t) hole cols) (k (({ st with heap:=hp }:St).put o.dst r)) none
     | none=>none
    | _,_=>none
   | _=>none
 | _=>evT P st o fun x=>k (st.put o.dst x)
def zoQ:List (Nat × TypeId)->Nat->List AV->Bool
 | [],_,_=>true
 | (c,_) :: r,off,l=>match Nat.blt c off || Nat.ble (off+l.length) c || zbc (l.getD (c-off) .undef)with | true=>zoQ r off l | false=>false
def zgj {α:Type} (st:St) (dst:Option Nat) (b sz i off:Nat) (e:TypeId) (ty:Ty) (cols:List (Nat × TypeId)) (hole:zbI) (ys:List ty.T) (x0:AV) (xs:List AV) (k:St->Option α):Option α:=
 match x0,xs,zaA cols off with
 | .own n,[],some e'=>match st.heap[n]?,Nat.beq ty.sz sz with
  | some (.row e2 t' [] [] zs),true=>match Nat.beq e2 e',wr (ty.enc (nth ys i)) off [.sl t' zs]with
   | true,some cs'=>match ty.dec cs' with
    | some y=>match noS off hole with
     | true=>k (({ st with heap:=(st.heap.set n .dead).set b (.row e ty cols hole (ys.set i y)) }:St).put dst .undef)
     | false=>match hole with
      | [(i',_,some _)]=>cond (Nat.beq i i') (k (({ st with heap:=(st.heap.set n .dead).set b (.row e ty cols [] (ys.set i y)) }:St).put dst .undef)) none
      | _=>none
    | none=>none
   | _,_=>none
  | _,_=>none
 | _,_,_=>match(zmA cols off (x0 :: xs).length || (zoQ cols off (x0 :: xs)&&hole.isEmpty))&&Nat.beq ty.sz sz,st.frzs (x0 :: xs)with
  | true,some (zs,st1)=>match st1.heap[b]?,wr (ty.enc (nth ys i)) off zs with
   | some (.row _ _ _ _ _),some cs'=>match ty.dec cs' with
    | some y=>k (({ st1 with heap:=st1.heap.set b (.row e ty cols hole (ys.set i y)) }:St).put dst .undef)
    | none=>none
   | _,_=>none
  | _,_=>none
def St.give1 (cols:List (Nat × TypeId)) (j:Nat) (st:St) (x:AV):Option (AV × St):=
 match zaA cols j with
 | some e'=>match x with
  | .own n=>match st.heap[n]? with
   | some (.row e2 t' [] [] zs)=>match Nat.beq e2 e' with
    | true=>some (.sl t' zs,{ st with heap:=st.heap.set n .dead })
    | false=>none
   | _=>none
  | x=>match zbc x with | true=>some (x,st) | false=>none
 | none=>St.frzD 9 st x
def St.gives(cols:List (Nat × TypeId))(sz:Nat):Nat->List AV->St->Option (List AV × St)
 | _,[],st=>some ([],st)
 | p,x :: r,st=>match st.give1 cols (p % sz) x with
  | some (y,st1)=>match St.gives cols sz (p+1) r st1 with | some (ys,st2)=>some (y :: ys,st2) | none=>none
  | none=>none
def zgk {α:Type} (st:St) (dst:Option Nat) (b o0:Nat) (ty:Ty) (m i d:Nat) (e:TypeId) (cs:List AV) (xs:List AV) (k:St->Option α):Option α:=
 match zdd ty m ((cs.drop o0).take (m*ty.sz)),st.frzs xs with
 | some ys,some (zs,st1)=>match st1.heap[b]?,wr (ty.enc (nth ys i)) d zs with
  | some (.cells _ _),some cs'=>match ty.dec cs' with
   | some y=>match wr cs o0 (zjU ty m (ys.set i y))with
    | some cs2=>k (({ st1 with heap:=st1.heap.set b (.cells e cs2) }:St).put dst .undef)
    | none=>none
   | none=>none
  | _,_=>none
 | _,_=>none
def zcH{α:Type}(xs:List α)(o:Nat)(zs:List α):List α:=xs.take o++(zs++xs.drop (o+zs.length))
def zvo:AV->Option (Nat × Nat × Option Nat)
 | .own b=>some (b,0,none)
 | .vw b sz o n=>match Nat.beq sz 1 with | true=>some (b,o,some n) | false=>none
 | _=>none
def zmb{α:Type}(P:Program)(st:St)(dst:Option Nat)(t:TypeId)(d s:AV)(k:St->Option α):Option α:=
 match zvo d with
 | some (b,o,n)=>match st.heap[b]?,P.underlying t with
  | some (.row e ty [] [] xs),some (.slice e2)=>match Nat.beq ty.sz 1&&Nat.beq (P.cellsOf e2) 1,st.src ty s with
   | true,some ys=>k (({ st with heap:=st.heap.set b (.row e ty [] [] (zcH xs o (ys.take (n.getD xs.length)))) }:St).put dst (.v (.int .i64 (ys.take (n.getD xs.length)).length)))
   | _,_=>none
  | _,_=>none
 | none=>none
def ziH {α:Type} (P:Program) (st:St) (dst:Option Nat) (t:TypeId) (x:AV) (k:St->Option α):Option α:=
 match x with
 | .own b=>match st.heap[b]?,P.underlying t with
  | some (.row e ty [] [] xs),some (.slice e2)=>match Nat.beq ty.sz 1,zdp P e2 with
   | true,some [z]=>match ty.dec [z]with
    | some y=>k (({ st with heap:=st.heap.set b (.row e ty [] [] (List.replicate xs.length y)) }:St).put dst skipC)
    | none=>none
   | _,_=>none
  | _,_=>none
 | _=>none
 where skipC:AV:=.v (.tuple #[])
def zjX {α:Type} (P:Program) (G:Gam) (st:St) (o:Oper) (k:St->Option α):Option α:=
 match o.op with
 | .load t a=>match st.ev a with
  | .oel b sz i off=>zjY P st o t b sz i off k
  | _=>evT P st o fun x=>k (st.put o.dst x)
 | .box t x=>match(st.ev x).cells with
  | some cs=>k (({ st with heap:=st.heap++[.cells t cs] }:St).put o.dst (.ref st.heap.length 0))
  | none=>none
 | .alloc t=>match zdp P t with
  | some z=>k (({ st with heap:=st.heap++[.cells t z] }:St).put o.dst (.ref st.heap.length 0))
  | none=>none
 | .store t a x=>match st.ev a,(st.ev x).cells with
  | .ref b off,some (x0 :: xs)=>match st.heap[b]?,Nat.beq (x0 :: xs).length (P.cellsOf t)with
   | some (.cells e cs),true=>match wr cs off (x0 :: xs)with
    | some cs'=>k (({ st with heap:=st.heap.set b (.cells e cs') }:St).put o.dst .undef)
    | none=>none
   | _,_=>none
  | .oel b sz i off,some (x0 :: xs)=>match st.heap[b]?,Nat.beq (x0 :: xs).length (P.cellsOf t)with
   | some (.row e ty cols hole ys),true=>zgj st o.dst b sz i off e ty cols hole ys x0 xs k
   | _,_=>none
  | .rex b o0 ty m i d,some (x0 :: xs)=>match st.heap[b]?,Nat.beq (x0 :: xs).length (P.cellsOf t)with
   | some (.cells e cs),true=>zgk st o.dst b o0 ty m i d e cs (x0 :: xs) k
   | _,_=>none
  | _,_=>none
 | .makeSlice t l c=>match P.underlying t,st.ev l,st.ev c with
  | some (.slice e),.v (.int .i64 n),.v (.int .i64 m)=>match zdQ e,zdp P e,P.info? e with
   | some ty,some z,some i=>match ty.dec z,Nat.beq i.size ty.sz&&zhe (st.dp e) z,i.bytes with
    | some x,true,_+1=>cond (decide (n=m)&&decide (0<=n)&&leB (n.toNat*i.bytes) 140737488355328) (k (st.push (st.rowOf e ty (List.replicate n.toNat x)) o.dst)) none
    | _,_,_=>none
   | _,_,_=>none
  | _,_,_=>none
 | .buildSlice t len parts=>match P.underlying t with
  | some (.slice e)=>match zdQ e,zdp P e,P.info? e with
   | some ty,some z,some i=>match Nat.beq i.size ty.sz&&Nat.beq z.length ty.sz,Nat.ble len 4096,zgl (fun j=>some (j*i.size,i.size)) (List.replicate len z).flatten (zeL st parts.toList)with
    | true,true,some cs=>match St.gives (st.dp e) ty.sz 0 cs st with
     | some (zs,st1)=>match zdd ty len zs with
      | some xs=>k (st1.push (st.rowOf e ty xs) o.dst)
      | none=>none
     | none=>none
    | _,_,_=>none
   | _,_,_=>none
  | _=>none
 | .call { callee:=.builtin .append,args,argTypes }=>match args.toList,argTypes.toList with
  | [s,x],[t,t']=>match P.underlying t with
   | some (.slice e)=>match zdQ e,zdp P e,P.info? e with
    | some ty,some z,some i=>match Nat.beq t t',Nat.beq i.size ty.sz&&Nat.beq z.length ty.sz,i.bytes,st.base e ty (st.dp e) (st.ev s)with
     | true,true,_+1,some (xs,st1)=>match st.dp e with
      | []=>match st1.src ty (st.ev x)with
       | some ys=>cond (leB ((xs.length+ys.length)*i.bytes) 140737488355328) (k (st1.push (.row e ty [] [] (xs++ys)) o.dst)) none
       | none=>none
      | c :: cols=>match st1.srcD e ty (c :: cols) (st.ev x)with
       | some (ys,st2)=>cond (leB ((xs.length+ys.length)*i.bytes) 140737488355328) (k (st2.push (.row e ty (c :: cols) [] (xs++ys)) o.dst)) none
       | none=>none
     | false,true,_+1,some (xs,st1)=>match P.underlying t',st.ev x,st.dp e,ty.dec z with
      | some (.int _),.v (.int _ n),[],some x0=>cond (decide (0<n)&&leB ((xs.length+n.toNat)*i.bytes) 140737488355328) (k (st1.push (.row e ty [] [] (xs++List.replicate n.toNat x0)) o.dst)) none
      | _,_,_,_=>none
     | _,_,_,_=>none
    | _,_,_=>none
   | _=>none
  | _,_=>none
 | .slice t x lo hi none=>match st.ev x with
  | .own b=>match st.frz1 (.own b),P.underlying t with
   | some (.sl ty xs,st1),some (.slice e)=>match bnd st lo 0,bnd st hi xs.length,Nat.beq (P.cellsOf e) ty.sz with
    | some l,some h,true=>cond (inS l h xs.length) (k (st1.put o.dst (.sl ty ((xs.take h.toNat).drop l.toNat)))) none
    | _,_,_=>none
   | _,_=>none
  | _=>evT P st o fun x=>k (st.put o.dst x)
 | .call { callee:=.value c,args,.. }=>match target P (st.ev c) (args.toList.map st.ev)with
  | some (f,as)=>zeW G st f as fun r st'=>k (st'.put o.dst r)
  | none=>none
 | .call { callee:=.invoke x m,args,.. }=>match st.ev x with
  | .ifc t y=>match zdF P t m with
   | some f=>zeW G st (.f f) (y :: args.toList.map st.ev) fun r st'=>k (st'.put o.dst r)
   | none=>none
  | _=>none
 | .makeMap t none=>match P.underlying t with
  | some (.map kt vt)=>match zdQ kt,zdQ vt with
   | some kk,some kv=>k (({ st with heap:=st.heap++[.map kk kv (st.dp t) []] }:St).put o.dst (.om st.heap.length))
   | _,_=>none
  | _=>none
 | .mapUpdate t m x y=>match st.ev m,P.underlying t with
  | .om b,some (.map kt vt)=>match zdQ kt,zdQ vt,zr9 P kt (st.ev x),st.heap[b]? with
   | some kk,some kv,some xv,some (.map _ _ cols _)=>match st.mapVal b cols kv (st.ev y),rdA kk (st.ev x)with
    | some (val,st1),some key=>match st1.heap[b]? with
     | some (.map k' v' cols' es0)=>match zgo kk kv k' v' es0 with
      | some es=>orB (zn5 (zdE P kt kk xv) (zj3 P kt) key val es) (fun es'=>k (({ st1 with heap:=st1.heap.set b (.map kk kv cols' es') }:St).put o.dst .undef)) none
      | none=>none
     | _=>none
    | _,_=>none
   | _,_,_,_=>none
  | _,_=>none
 | .call { callee:=.builtin .delete,args,argTypes }=>match args.toList,argTypes.toList with
  | [m,x],t :: _=>match st.ev m,P.underlying t with
   | .om b,some (.map kt vt)=>match zdQ kt,zdQ vt,zr9 P kt (st.ev x),st.heap[b]? with
    | some kk,some kv,some xv,some (.map k' v' cols es0)=>match zgo kk kv k' v' es0 with
     | some es=>orB (zqw (zdE P kt kk xv) es) (fun es'=>k (({ st with heap:=st.heap.set b (.map kk kv cols es') }:St).put o.dst (.v (.tuple #[])))) none
     | none=>none
    | _,_,_,_=>none
   | _,_=>none
  | _,_=>none
 | .typeAssert x _ t true=>match st.ev x,P.underlying t with
  | .ifc t' y,some (.struct _)=>match Nat.beq t' t with
   | true=>k (st.put o.dst (.tup [y,.v (.bool true)]))
   | false=>match P.info? t with
    | some i=>match i.zero with
     | some (.agg z)=>k (st.put o.dst (.tup [.agg (z.toList.map .v),.v (.bool false)]))
     | _=>none
    | none=>none
  | _,_=>none
 | .defer { callee:=.value c,args,.. }=>match target P (st.ev c) (args.toList.map st.ev),st.ev c with
  | some (.f f,as),.fn (.func _) _ _=>k (({ st with df:=(f,as) :: st.df }:St).put o.dst .undef)
  | _,_=>none
 | .call { callee:=.builtin .copy,args,argTypes }=>match args.toList,argTypes.toList with
  | [d,s],[t,_]=>zmb P st o.dst t (st.ev d) (st.ev s) k
  | _,_=>none
 | .call { callee:=.builtin .clear,args,argTypes }=>match args.toList,argTypes.toList with
  | [x],[t]=>ziH P st o.dst t (st.ev x) k
  | _,_=>none
 | _=>evT P st o fun x=>k (st.put o.dst x)
def zey:AV:=.v (.tuple #[])
def zG8(l:List Oper)(d:Option Nat):Bool:=match d with
 | some t=>l.any fun o=>match o.op with
  | .call { callee:=.builtin .copy,args,.. }=>match args.toList with | [.tmp t',_]=>Nat.beq t t' | _=>false
  | _=>false
 | none=>false
def zAy{α:Type}(P:Program)(st:St)(dst:Option Nat)(t:TypeId)(b:Nat)(lo hi:Option Operand)(k:St->Option α):Option α:=
 match st.heap[b]?,P.underlying t with
 | some (.row e ty [] [] xs),some (.slice e2)=>match bnd st lo 0,bnd st hi xs.length,Nat.beq (P.cellsOf e2) ty.sz with
  | some l,some h,true=>cond (inS l h xs.length) (k (st.put dst (.vw b ty.sz l.toNat (h.toNat-l.toNat)))) none
  | _,_,_=>none
 | _,_=>none
def zoy{α:Type}(P:Program)(G:Gam)(l:List Oper)(st:St)(o:Oper)(k:St->Option α):Option α:=
 match zG8 l o.dst with
 | true=>match o.op with
  | .slice t x lo hi none=>match st.ev x with
   | .own b=>zAy P st o.dst t b lo hi k
   | _=>zjX P G st o k
  | _=>zjX P G st o k
 | false=>zjX P G st o k
def zgi {α:Type} (P:Program) (G:Gam) (l:List Oper):List Oper->St->(St->Option α)->Option α
 | [],st,k=>k st
 | o :: rest,st,k=>match o.guard with
  | none=>zoy P G l st o fun st=>zgi P G l rest st k
  | some (j,want)=>match(l[j]?).bind (·.dst)with
   | some d=>match st.get d with
    | .v (.bool t)=>match want with
     | true=>cond t (zoy P G l (st.set d (.v (.bool true))) o fun st=>zgi P G l rest st k) (zgi P G l rest ((st.set d (.v (.bool false))).put o.dst zey) k)
     | false=>cond t (zgi P G l rest ((st.set d (.v (.bool true))).put o.dst zey) k) (zoy P G l (st.set d (.v (.bool false))) o fun st=>zgi P G l rest st k)
    | .v (.tuple _)=>zgi P G l rest (st.put o.dst zey) k
    | _=>none
   | none=>none
def zdn(o:Oper):List Nat:=o.op.operands.toList.filterMap fun | .tmp t=>some t | _=>none
def zc5(st:St)(o:Oper):Bool:=
 match o.op with
 | .box .. => true | .alloc .. => true | .store .. => true | .makeSlice .. => true | .buildSlice .. => true | .call { callee:=.value _,.. }=>true | .call { callee:=.invoke ..,.. }=>true | .typeAssert .. => true | .call { callee:=.builtin .append,.. }=>true | .call { callee:=.builtin .copy,.. }=>true | .call { callee:=.builtin .clear,.. }=>true | .call { callee:=.builtin .delete,.. }=>true | .makeMap .. => true | .mapUpdate .. => true | .defer .. => true
 | .slice _ x .. => match st.ev x with | .own _=>true | _=>false
 | .load _ a=>match st.ev a with | .oel b _ _ _=>(match st.heap[b]? with | some (.row _ _ (_ :: _) _ _)=>true | _=>false) | _=>false
 | _=>false
def zbi(st:St)(o:Oper):List Nat:=
 match o.op with
 | .load _ a=>(st.ev a).roots 9
 | .store _ a x=>zcZ st.heap 4000 [] ((st.ev a).roots 9++(st.ev x).roots 9)
 | .indexAddr _ x _=>(st.ev x).roots 9
 | .lookup _ m _ _=>(st.ev m).roots 9
 | .mapUpdate _ m _ y=>zcZ st.heap 4000 [] ((st.ev m).roots 9++(st.ev y).roots 9)
 | .slice _ x .. => (st.ev x).roots 9
 | .buildSlice _ _ parts=>zbT (parts.toList.map fun p=>st.ev p.2)
 | .call { callee:=.value c,args,.. }=>zcZ st.heap 4000 [] (zbT (st.ev c :: args.toList.map st.ev))
 | .call { callee:=.invoke x _,args,.. }=>zcZ st.heap 4000 [] (zbT (st.ev x :: args.toList.map st.ev))
 | .call { callee:=.builtin _,args,.. }=>zbT (args.toList.map st.ev)
 | _=>[]
def znR(n b:Nat):Option Nat:=match Nat.blt b n with | true=>some b | false=>none
def St.mask(st:St)(n:Nat)(ts ids:List Nat):St:=
 { st with env:=maskE ts n 0 st.env,heap:=maskH ids n 0 (st.heap.take n),np:=n,df:=st.df.map fun(f,as)=>(f,as.map (AV.mapB (znR n) 9)) }
 where
 maskE (ts:List Nat) (n:Nat):Nat->List AV->List AV
  | _,[]=>[]
  | i,x :: r=>(match zfH i ts with | true=>x.mapB (znR n) 9 | false=>.undef) :: maskE ts n (i+1) r
 maskH (ids:List Nat) (n:Nat):Nat->List Blk->List Blk
  | _,[]=>[]
  | i,k :: r=>(match zfH i ids with | true=>k.mapB (znR n) | false=>.dead) :: maskH ids n (i+1) r
def zeY(ids:List Nat):Nat->List Blk->List Blk->List Blk
 | _,[],new=>new
 | _,old,[]=>old
 | i,k :: old,k' :: new=>(match zfH i ids with | true=>k' | false=>k) :: zeY ids (i+1) old new
structure Fp where
 rd:List Nat
 wr:List Nat
def news(n:Nat):Nat->List Nat
 | 0=>[]
 | m+1=>match Nat.ble n m with | true=>news n m++[m] | false=>[]
def zfK(o:Oper):Bool:=match o.op with | .defer .. => true | _=>false
def zCE:Ans->Option Value
 | ⟨.v v,[]⟩=>some v
 | _=>none
def zvR (P:Program) (G:Gam) (st:St) (o:Oper):Option Rsp:=
 match o.op with
 | .call { callee:=.value c,args,.. }=>match target P (st.ev c) (args.toList.map st.ev)with
  | some (f,as)=>match zmy (st.snap 9) as with
   | some as1=>match G f as1 []with
    | some y=>match zCE (y.to y.d)with | some _=>some y | none=>none
    | none=>none
   | none=>none
  | none=>none
 | _=>none
def zpF{α:Type}(P:Program)(G:Gam)(st:St)(o:Oper)(k:Fp->St->Option α):Option α:=
 match zfK o with
 | true=>none
 | false=>match zvR P G (st.mask st.heap.length (zdn o) (zbi st o)) o with
  | some y=>orB y.o (fun x=>match zCE (y.to x)with | some v=>k ⟨zbi st o,[]⟩ (st.put o.dst (.v v)) | none=>none) none
  | none=>zjX P G (st.mask st.heap.length (zdn o) (zbi st o)) o fun s=>match zc5 st o,Nat.ble st.heap.length s.heap.length with
   | true,true=>k ⟨zbi st o,zbi st o++news st.heap.length s.heap.length⟩ { (st.put o.dst (s.get (o.dst.getD 0)))with heap:=zeY (zbi st o) 0 st.heap s.heap }
   | true,false=>none
   | false,_=>k ⟨zbi st o,[]⟩ (st.put o.dst (s.get (o.dst.getD 0)))
def zde {α:Type} (P:Program) (G:Gam) (l:List Oper):List Oper->List Fp->St->(List Fp->St->Option α)->Option α
 | [],fs,st,k=>k fs st
 | o :: rest,fs,st,k=>match o.guard with
  | none=>zpF P G st o fun f st=>zde P G l rest (fs++[f]) st k
  | some (j,want)=>match(l[j]?).bind (·.dst)with
   | some d=>match st.get d with
    | .v (.bool t)=>match want with
     | true=>cond t (zpF P G (st.set d (.v (.bool true))) o fun f st=>zde P G l rest (fs++[f]) st k) (zde P G l rest (fs++[⟨[],[]⟩]) ((st.set d (.v (.bool false))).put o.dst zey) k)
     | false=>cond t (zde P G l rest (fs++[⟨[],[]⟩]) ((st.set d (.v (.bool true))).put o.dst zey) k) (zpF P G (st.set d (.v (.bool false))) o fun f st=>zde P G l rest (fs++[f]) st k)
    | .v (.tuple _)=>zde P G l rest (fs++[⟨[],[]⟩]) (st.put o.dst zey) k
    | _=>none
   | none=>none
def apart(a b:List Nat):Bool:=a.all fun x=>match zfH x b with | true=>false | false=>true
def zid(l:List Oper)(o:Oper):List Nat:=(match o.guard with | some (j,_)=>(match(l[j]?).bind (·.dst)with | some d=>[d] | none=>[]) | none=>[])++zdn o
def ziS(l:List Oper)(o o':Oper)(f f':Fp):Bool:=
 apart o.dst.toList (zid l o'++o'.dst.toList)&&apart o'.dst.toList (zid l o)&&apart f.wr (f'.rd++f'.wr)&&apart f'.wr f.rd
def indepAll(l:List Oper)(bs:List Nat):Nat->List Oper->List Fp->Bool
 | i,o :: os,f :: fs=>indepOne i o f (i+1) os fs&&indepAll l bs (i+1) os fs
 | _,_,_=>true
 where indepOne (i:Nat) (o:Oper) (f:Fp):Nat->List Oper->List Fp->Bool
 | j,o' :: os,f' :: fs=>(Nat.testBit (bs.getD j 0) i || ziS l o o' f f')&&indepOne i o f (j+1) os fs
 | _,_,_=>true
def St.setOp(st:St)(c:Operand)(t:Bool):St:=match c with | .tmp d=>st.set d (.v (.bool t)) | _=>st
def zd0(l:List Nat):Nat->List AV->List AV
 | _,[]=>[]
 | i,x :: r=>(match l.any (Nat.beq i)with | true=>.undef | false=>x) :: zd0 l (i+1) r
inductive Cv where
 | own (e:TypeId) (t:Ty)
 | sl (t:Ty)
 | op (t:Ty)
 | clo
 | fnc
 | mv (e:TypeId) (t:Ty)
 | nilp
 | home
 | low (c:Nat)
 | ift (t:TypeId)
 | un
def St.conv(st:St):Cv->AV->Option (AV × St)
 | .own e t,x=>match x with
  | .v (.slice none 0 0)=>some (.own st.heap.length,{ st with heap:=st.heap++[st.rowOf e t []] })
  | .own b=>some (.own b,st)
  | _=>none
 | .sl t,x=>match x with
  | .v (.slice none 0 _)=>some (.sl t [],st)
  | .own b=>st.frz1 (.own b)
  | .sl t' xs=>some (.sl t' xs,st)
  | _=>none
 | .op t,x=>match St.frzD 9 st x with | some (y,st1)=>(match zcx t y with | some z=>some (.op t z,st1) | none=>none) | none=>none
 | .clo,x=>match St.frzD 9 st x with | some (y,st1)=>(match zrN y with | some c=>some (.clo c,st1) | none=>none) | none=>none
 | .fnc,x=>match x with | .fn f a c=>some (.fn f a c,st) | .ref b o=>some (.ref b o,st) | _=>none
 | .mv e t,x=>match x with
  | .v (.slice none 0 0)=>some (.own st.heap.length,{ st with heap:=st.heap++[st.rowOf e t []] })
  | .own b=>match st.heap[b]? with
   | some (.row e' t' [] [] xs)=>some (.own st.heap.length,{ st with heap:=st.heap.set b .dead++[.row e' t' [] [] xs] })
   | _=>none
  | _=>none
 | .home,x=>match x with
  | .own b=>some (.own b,{ st with heap:=zk2 st.heap b })
  | _=>none
 | .low c,x=>match x with
  | .own b=>match st.heap[b]? with
   | some (.row e ty cols hole xs)=>some (.own b,{ st with heap:=st.heap.set b (.row e ty cols ((ziV c hole,c,none) :: zmM c hole) xs) })
   | _=>none
  | _=>none
 | .un,x=>match zrp x with | some _=>some (.any,st) | none=>none
 | .nilp,x=>match x with | .v (.pointer none)=>some (.v (.pointer none),st) | _=>none
 | .ift t,x=>match x with | .ifc t' y=>(match Nat.beq t t' with | true=>some (.ifc t' y,st) | false=>none) | _=>none
inductive At where
 | slot (i:Nat) | cell (i j:Nat) | box (i j:Nat)
def St.conv1 (st:St) (l:List AV):At->Cv->Option (List AV × St)
 | .slot i,c=>match l[i]? with
  | some x=>match st.conv c x with | some (y,st1)=>some (l.set i y,st1) | none=>none
  | none=>none
 | .cell i j,c=>match l[i]? with
  | some (.agg cs)=>match cs[j]? with
   | some x=>match st.conv c x with | some (y,st1)=>some (l.set i (.agg (cs.set j y)),st1) | none=>none
   | none=>none
  | some (.tup cs)=>match cs[j]? with
   | some x=>match st.conv c x with | some (y,st1)=>some (l.set i (.tup (cs.set j y)),st1) | none=>none
   | none=>none
  | _=>none
 | .box i j,c=>match l[i]? with
  | some (.ref b _)=>match st.heap[b]? with
   | some (.cells e cs)=>match cs[j]? with
    | some x=>match st.conv c x with
     | some (y,st1)=>match st1.heap[b]? with
      | some (.cells _ _)=>some (l,{ st1 with heap:=st1.heap.set b (.cells e (cs.set j y)) })
      | _=>none
     | none=>none
    | none=>none
   | _=>none
  | _=>none
def St.convs(st:St)(l:List AV):List (At × Cv)->Option (List AV × St)
 | []=>some (l,st)
 | (a,c) :: r=>match st.conv1 l a c with | some (l1,st1)=>st1.convs l1 r | none=>none
structure Hd where
 clear:List Nat
 form:List (At × Cv)
structure zab where
 cut:Nat->Bool
 head:Nat->Hd
 fin:List (At × Cv)
 dfr:Gam
 dp:TypeId->List (Nat × TypeId)
def St.head(h:Hd)(st:St)(k:St->Option Ans):Option Ans:=
 match st.convs (zd0 h.clear 0 st.env) h.form with
 | some (l,st1)=>
  let ids:=zcZ st1.heap 4000 (List.range st.np) (zke (st1.heap.take st.np)++zbT l++st1.df.flatMap (fun d=>zbT d.2))
  match zgs ids,Nat.beq (idxs ids st.np) st.np with
  | true,true=>k (({ st1 with env:=l }:St).sub ids)
  | _,_=>none
 | none=>none
 where
  idxs (ids:List Nat):Nat->Nat
  | 0=>0
  | n+1=>match ids[n]? with | some b=>(match Nat.beq b n with | true=>idxs ids n+1 | false=>0) | none=>0
def zql:Nat->List Oper->Bool
 | _,[]=>true
 | i,o :: r=>o.after.toList.all (fun e=>Nat.blt e.on i || !Region.binds .any e)&&zql (i+1) r
def zvs(P:Program)(G:Gam)(ops:Array Oper)(draw:Bool)(st:St)(k:St->Option Ans):Option Ans:=
 match draw with
 | false=>zgi P G ops.toList ops.toList st k
 | true=>match P.follows .mixedOrders,zql 0 ops.toList with
  | true,true=>zde P G ops.toList ops.toList [] st fun fs st=>match indepAll ops.toList (Region.before ops).toList 0 ops.toList fs with
   | true=>k st
   | false=>none
  | _,_=>none
abbrev Jmp:=Nat->St->Option Ans
section
variable (P:Program) (G:Gam) (H:zab) (J:Jmp)
def zr8(id:Nat)(k:Kn):Kn
 | .exit j,st=>match Nat.beq j id with | true=>k .normal st | false=>k (.exit j) st
 | e,st=>k e st
def zyc(f:St->Option Ans)(k:Kn):Kn
 | .normal,st=>f st
 | e,st=>k e st
def ev:Nat->Code->Kn->St->Option Ans
 | _,.skip,k,st=>k .normal st
 | _,.region id ops draw,k,st=>match H.cut id with
  | true=>st.head (H.head (2*id+1)) (J (2*id+1))
  | false=>zvs P G ops draw st (k .normal)
 | l,.seq a b,k,st=>ev l a (zyc (ev l b k) k) st
 | l,.cond c a b,k,st=>match st.ev c with
  | .v (.bool t)=>cond t (ev l a k (st.setOp c true)) (ev l b k (st.setOp c false))
  | _=>none
 | _,.block id c,k,st=>ev id c (zr8 id k) st
 | l,.loop _,_,st=>st.head (H.head (2*l)) (J (2*l))
 | _,.exit id,k,st=>k (.exit id) st
 | _,.ret,k,st=>k .ret st
 | _,_,_,_=>none
def stepAt(at_:Nat):Nat->Code->Kn->St->Option Ans
 | l,.seq a b,k,st=>match hasLoop at_ l a with
  | true=>stepAt at_ l a (zyc (ev P G H J l b k) k) st
  | false=>stepAt at_ l b k st
 | l,.cond _ a b,k,st=>match hasLoop at_ l a with
  | true=>stepAt at_ l a k st
  | false=>stepAt at_ l b k st
 | _,.block id c,k,st=>stepAt at_ id c (zr8 id k) st
 | l,.loop c,k,st=>match Nat.beq (2*l) at_ with
  | true=>ev P G H J l c (zyc (fun st=>st.head (H.head (2*l)) (J (2*l))) k) st
  | false=>stepAt at_ l c (zyc (fun st=>st.head (H.head (2*l)) (J (2*l))) k) st
 | _,.region id ops draw,k,st=>match Nat.beq (2*id+1) at_ with
  | true=>zvs P G ops draw st (k .normal)
  | false=>none
 | _,_,_,_=>none
 where hasLoop (at_:Nat):Nat->Code->Bool
 | _,.region id _ _=>match H.cut id with | true=>Nat.beq (2*id+1) at_ | false=>false
 | l,.seq a b=>match hasLoop at_ l a with | true=>true | false=>hasLoop at_ l b
 | l,.cond _ a b=>match hasLoop at_ l a with | true=>true | false=>hasLoop at_ l b
 | _,.block id c=>hasLoop at_ id c
 | l,.loop c=>match Nat.beq (2*l) at_ with | true=>true | false=>hasLoop at_ l c
 | _,_=>false
end
def zlu(P:Program)(st:St):List ResultVar->Option (List AV)
 | []=>some []
 | .tmp t :: r=>match zlu P st r with | some xs=>some (st.get t :: xs) | none=>none
 | .cell a ty :: r=>match st.load P ty (st.get a),zlu P st r with | some x,some xs=>some (x :: xs) | _,_=>none
def one:List AV->AV
 | [x]=>x
 | xs=>.tup xs
def zuj(st:St)(l:List AV):Option Ans:=
 let ids:=zcZ st.heap 4000 (List.range st.np) (zke (st.heap.take st.np)++zbT l)
 match zgs ids,Nat.beq (St.head.idxs ids st.np) st.np with
 | true,true=>some ⟨(one l).mapB (idx ids) 9,zbE st.heap ids⟩
 | _,_=>none
def zo5(G:Gam):List (FuncId × List AV)->St->(St->Option Ans)->Option Ans
 | [],st,k=>k st
 | (f,as) :: r,st,k=>zeW G { st with df:=r } (.f f) as fun _ st'=>zo5 G r st' k
def fin (P:Program) (H:zab) (fn:Func):Kn
 | .exit _,_=>none
 | _,st=>match st.df with
  | []=>match zlu P st fn.results.toList with
   | some l=>match st.convs (l++st.env) H.fin with
    | some (l',st1)=>zuj st1 (l'.take l.length)
    | none=>none
   | none=>none
  | d :: r=>zo5 H.dfr (d :: r) st fun st=>match zlu P st fn.results.toList with
   | some l=>match st.convs (l++st.env) H.fin with
    | some (l',st1)=>zuj st1 (l'.take l.length)
    | none=>none
   | none=>none
def entry(dp:TypeId->List (Nat × TypeId))(gl:List AV)(fn:Func)(args:List AV)(hp:List Blk):St:=⟨args++List.replicate (fn.ntmps-args.length) .undef,hp,gl,hp.length,[],dp⟩
def zc9(fn:Func):Code:=fn.body.getD .skip
def zx8(P:Program)(G:Gam)(H:zab)(J:Jmp)(gl:List AV)(fn:Func)(args:List AV)(hp:List Blk):Option Ans:=ev P G H J 0 (zc9 fn) (fin P H fn) (entry H.dp gl fn args hp)
def zx9(P:Program)(G:Gam)(H:zab)(fn:Func):Nat->Jmp
 | 0,_,_=>none
 | n+1,l,st=>stepAt P G H (zx9 P G H fn n) l 0 (zc9 fn) (fin P H fn) st
end Go.Proofs.YtgajeebphoiphaaGreatDoor
end
