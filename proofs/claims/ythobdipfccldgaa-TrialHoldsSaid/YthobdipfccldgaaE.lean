/- The abstract evaluator: it carries the model's code out over abstract values. (Its soundness: the text S.) -/
import Derived.Test.YthobdipfccldgaaU
import Derived.RegionTactic
import Derived.Deep.Quiet
namespace Go.Proofs.Ythobdipfccldgaa
set_option linter.unusedVariables false
/-- What is in an own block: a box's cells; a row's elements; nothing that is looked at. -/
inductive Blk where
  | cells (cs : List AV)
  | arr (e : TypeId) (t : Ty) (xs : List t.T)
  | ro (t : Ty) (xs : List t.T)
  | dead
structure St where
  env : List AV
  heap : List Blk
  gl : List AV
inductive Ex where
  | normal | exit (id : Nat) | ret
/-- What follows: the function's answer. -/
abbrev Kn := Ex → St → Option AV
def St.get (st : St) (t : Nat) : AV := st.env.getD t .undef
def St.set (st : St) (t : Nat) (x : AV) : St := { st with env := st.env.set t x }
def St.put (st : St) (d : Option Nat) (x : AV) : St := match d with | some t => st.set t x | none => st
def ofConst : Value → AV
  | .agg cs => .agg (cs.toList.map .v)
  | x => .v x
def St.ev (st : St) : Operand → AV
  | .tmp t => st.get t
  | .const x => ofConst x
  | .func f => .v (.func (.func f) #[] #[])
  | .global g => st.gl.getD g .undef
def AV.val1 : AV → Option Value
  | .v x => some x
  | _ => none
def val1s : List AV → Option (List Value)
  | [] => some []
  | x :: r => match x.val1, val1s r with | some v, some vs => some (v :: vs) | _, _ => none
/-- What it is as a value of the model, if it leads nowhere. -/
def AV.val : AV → Option Value
  | .v x => some x
  | .agg cs => match val1s cs with | some vs => some (.agg vs.toArray) | none => none
  | _ => none
def vals : List AV → Option (List Value)
  | [] => some []
  | x :: r => match x.val, vals r with | some v, some vs => some (v :: vs) | _, _ => none
def ofVal : Value → AV
  | .agg cs => .agg (cs.toList.map .v)
  | x => .v x
/-- What a piece of the model computes without a look at the memory. -/
def comp {α : Type} (P : Program) : Sem α → Option α
  | .pure a => some a
  | .program k => comp P (k P)
  | .mark _ k => comp P k
  | _ => none
/-- Does it fill one cell? -/
def cell1 : AV → Bool
  | .v x => match x with | .agg _ => false | .tuple _ => false | _ => true
  | .sl _ _ => true
  | .ref _ _ => true
  | .own _ => true
  | _ => false
def cell1s : List AV → Bool
  | [] => true
  | x :: r => match cell1 x with | true => cell1s r | false => false
/-- A value's cells. -/
def AV.cells : AV → Option (List AV)
  | .agg cs => match cell1s cs with | true => some cs | false => none
  | x => match cell1 x with | true => some [x] | false => none
/-- A struct's or an array's size; none: another type. -/
def aggSize (P : Program) (t : TypeId) : Option (Option Nat) :=
  match P.underlying t with
  | some (.struct _) => (P.info? t).map fun i => some i.size
  | some (.array _ _) => (P.info? t).map fun i => some i.size
  | some _ => some none
  | none => none
/-- A variable of this type out of cells. -/
def rd (P : Program) (t : TypeId) (cs : List AV) (off : Nat) : Option AV :=
  match aggSize P t with
  | some none => cs[off]?
  | some (some n) => match Nat.ble (off + n) cs.length with | true => some (.agg ((cs.drop off).take n)) | false => none
  | none => none
def nth {t : Ty} (xs : List t.T) (i : Nat) : t.T := xs.getD i default
/-- Is i a place of so many? -/
def inR (i : Int) (n : Nat) : Bool := decide (0 ≤ i) && decide (i < n)
def St.load (P : Program) (st : St) (t : TypeId) : AV → Option AV
  | .ref b off => match st.heap[b]? with | some (.cells cs) => rd P t cs off | _ => none
  | .el ty xs i off => rd P t (ty.enc (nth xs i)) off
  | .oel b sz i off => match st.heap[b]? with
    | some (.arr _ ty xs) => match Nat.beq ty.sz sz with | true => rd P t (ty.enc (nth xs i)) off | false => none
    | _ => none
  | _ => none
def AV.add (d : Nat) : AV → Option AV
  | .ref b off => some (.ref b (off + d))
  | .el t xs i off => some (.el t xs i (off + d))
  | .oel b sz i off => some (.oel b sz i (off + d))
  | _ => none
def fieldOf (P : Program) (s : TypeId) (f : Nat) : Option Field :=
  match P.underlying s with
  | some (.struct fs) => fs[f]?
  | _ => none
/-- Cells written over from a place on. -/
def wr : List AV → Nat → List AV → Option (List AV)
  | cs, _, [] => some cs
  | c :: cs, 0, x :: xs => match wr cs 0 xs with | some r => some (x :: r) | none => none
  | c :: cs, n + 1, xs => match wr cs n xs with | some r => some (c :: r) | none => none
  | [], _, _ :: _ => none
def fillAV (place : Nat → Option (Nat × Nat)) (cells : List AV) : List (Nat × AV) → Option (List AV)
  | [] => some cells
  | (i, x) :: rest => match place i with
    | some (off, size) => match x.cells with
      | some xs => match Nat.beq xs.length size, Nat.ble (off + xs.length) cells.length, wr cells off xs with
        | true, true, some cs => fillAV place cs rest
        | _, _, _ => none
      | none => none
    | none => none
def evParts (st : St) : List (Nat × Operand) → List (Nat × AV)
  | [] => []
  | (i, x) :: r => (i, st.ev x) :: evParts st r
def zeroOf (P : Program) (t : TypeId) : Option (List AV) :=
  match P.info? t with
  | some i => match i.zero with | some z => some (z.cells.toList.map .v) | none => none
  | none => none
def placeOf (P : Program) (t : TypeId) : Option (Nat → Option (Nat × Nat)) :=
  match P.underlying t with
  | some (.array _ e) => match P.info? e with | some ie => some fun i => some (i * ie.size, ie.size) | none => none
  | some (.struct fields) => match fields.toList.mapM (fun f => (P.info? f.type).map fun i => (f.offset, i.size)) with | some places => some (places.toArray[·]?) | none => none
  | _ => none
/-- An own row handed on as its elements. -/
def St.snap1 (st : St) : AV → Option AV
  | .v x => some (.v x)
  | .sl t xs => some (.sl t xs)
  | .own b => match st.heap[b]? with | some (.arr _ t xs) => some (.sl t xs) | some (.ro t xs) => some (.sl t xs) | _ => none
  | _ => none
def St.snaps (st : St) : List AV → Option (List AV)
  | [] => some []
  | x :: r => match st.snap1 x, st.snaps r with | some y, some ys => some (y :: ys) | _, _ => none
def St.snap (st : St) : AV → Option AV
  | .agg cs => match st.snaps cs with | some ys => some (.agg ys) | none => none
  | x => st.snap1 x
def St.snapArgs (st : St) : List AV → Option (List AV)
  | [] => some []
  | x :: r => match st.snap x, st.snapArgs r with | some y, some ys => some (y :: ys) | _, _ => none
/-- An answer that leads nowhere. -/
def flat1 (x : AV) : Option Value := x.val
def flatR : AV → Option Value
  | .tup vs => match vals vs with | some l => some (.tuple l.toArray) | none => none
  | x => x.val
/-- A part of a struct or an array. -/
def partV (P : Program) (t : TypeId) (cs : Array Value) (off : Nat) : Option Value :=
  match aggSize P t with
  | some none => cs[off]?
  | some (some n) => some (.agg (cs.extract off (off + n)))
  | none => none
def eqFs (f : TypeId → Value → Value → Option Bool) (P : Program) (xs ys : Array Value) : List Field → Option Bool
  | [] => some true
  | fl :: r => match fl.name == "_" with
    | true => eqFs f P xs ys r
    | false => match partV P fl.type xs fl.offset, partV P fl.type ys fl.offset with
      | some a, some b => match f fl.type a b, eqFs f P xs ys r with
        | some p, some q => some (p && q)
        | _, _ => none
      | _, _ => none
def eqIs (f : TypeId → Value → Value → Option Bool) (P : Program) (e : TypeId) (n : Nat) (xs ys : Array Value) : List Nat → Option Bool
  | [] => some true
  | i :: r => match partV P e xs (i * n), partV P e ys (i * n) with
    | some a, some b => match f e a b, eqIs f P e n xs ys r with
      | some p, some q => some (p && q)
      | _, _ => none
    | _, _ => none
/-- Two values' equality, as one Bool. -/
def eqV (P : Program) : Nat → TypeId → Value → Value → Option Bool
  | 0, _, _, _ => none
  | d + 1, t, x, y => match P.underlying t, x, y with
    | some .bool, .bool a, .bool b => some (a == b)
    | some (.int _), .int k a, .int k' b => match decEq k k' with | isTrue _ => some (a == b) | isFalse _ => none
    | some .string, .string a, .string b => some (a.toList == b.toList)
    | some (.struct fs), .agg xs, .agg ys => match P.stoodInHeld t with | false => eqFs (eqV P d) P xs ys fs.toList | true => none
    | some (.array n e), .agg xs, .agg ys => match P.info? e with | some i => eqIs (eqV P d) P e i.size xs ys (List.range n) | none => none
    | _, _, _ => none
/-- The operations that neither write nor make memory, and do not part. -/
def evQ (P : Program) (st : St) (o : Oper) : Option AV :=
  match o.op with
  | .move x => some (st.ev x)
  | .assign x => some (st.ev x)
  | .load t a => st.load P t (st.ev a)
  | .nilCheck x => match st.ev x with | .ref b off => some (.ref b off) | .el t xs i off => some (.el t xs i off) | _ => none
  | .binOp op t x y _ => match (st.ev x).val, (st.ev y).val with
    | some (.agg xs), some (.agg ys) => match op, P.eqGuardType P.depth t, eqV P 10000 t (.agg xs) (.agg ys) with
      | .eql, false, some b => some (.v (.bool b))
      | .neq, false, some b => some (.v (.bool (!b)))
      | _, _, _ => none
    | some a, some b => (comp P (do eqGuard op t x y a b; binOp op t a b)).map ofVal
    | _, _ => none
  | .unOp op _ x => match (st.ev x).val with
    | some a => (comp P (Op.unary op a)).map ofVal
    | none => none
  | .convert s d x => match (st.ev x).val with
    | some a => (comp P (convert s d a)).map ofVal
    | none => none
  | .fieldAddr s x f => match fieldOf P s f with
    | some fl => match P.cellsOf fl.type with | 0 => none | _ + 1 => (st.ev x).add fl.offset
    | none => none
  | .field s x f => match fieldOf P s f, st.ev x with
    | some fl, .agg cs => rd P fl.type cs fl.offset
    | _, _ => none
  | .extract x i => match st.ev x with
    | .tup vs => vs[i]?
    | _ => none
  | .build t parts => match placeOf P t, zeroOf P t with
    | some pl, some z => (fillAV pl z (evParts st parts.toList)).map .agg
    | _, _ => none
  | _ => none
/-- The builtins over lengths. -/
def evLen (P : Program) (st : St) (t : TypeId) (x : AV) : Option AV :=
  match x with
  | .sl _ xs => match P.underlying t with | some (.slice _) => some (.v (.int .i64 xs.length)) | _ => none
  | .own b => match P.underlying t, st.heap[b]? with | some (.slice _), some (.arr _ _ xs) => some (.v (.int .i64 xs.length)) | some (.slice _), some (.ro _ xs) => some (.v (.int .i64 xs.length)) | _, _ => none
  | .v a => (comp P (Builtin.len_ #[t] 0 #[a])).map ofVal
  | _ => none
/-- What the functions that are called answer, where a condition holds. -/
abbrev Gam := FuncId → List AV → Option (Bool × AV)
/-- A bound of a slice's cut. -/
def bnd (st : St) (x : Option Operand) (d : Nat) : Option Int :=
  match x with
  | none => some d
  | some x => match st.ev x with | .v (.int _ n) => some n | _ => none
def inS (l h : Int) (n : Nat) : Bool := decide (0 ≤ l) && decide (l ≤ h) && decide (h ≤ n)
/-- An operation that neither writes nor makes memory that is kept. -/
def evT (P : Program) (G : Gam) (st : St) (o : Oper) (k : AV → Option AV) : Option AV :=
  match o.op with
  | .pick c a b => match st.ev c with
    | .v (.bool t) => cond t (k (st.ev a)) (k (st.ev b))
    | _ => none
  | .indexAddr t x i => match P.underlying t, st.ev x, st.ev i with
    | some (.slice e), .sl ty xs, .v (.int _ n) => match Nat.beq (P.cellsOf e) ty.sz with
      | true => cond (inR n xs.length) (k (.el ty xs n.toNat 0)) none
      | false => none
    | some (.slice e), .own b, .v (.int _ n) => match st.heap[b]? with
      | some (.arr _ ty xs) => match Nat.beq (P.cellsOf e) ty.sz with
        | true => cond (inR n xs.length) (k (.oel b ty.sz n.toNat 0)) none
        | false => none
      | some (.ro ty xs) => match Nat.beq (P.cellsOf e) ty.sz with
        | true => cond (inR n xs.length) (k (.el ty xs n.toNat 0)) none
        | false => none
      | _ => none
    | _, _, _ => none
  | .index t x i => match P.underlying t, st.ev x, st.ev i with
    | some .string, .v (.string s), .v (.int _ n) => cond (inR n s.size) (k (.v (.int .u8 (((s.data.getD n.toNat 0).toNat : Nat) : Int)))) none
    | _, _, _ => none
  | .slice t x lo hi none => match st.ev x with
    | .sl ty xs => match P.underlying t, bnd st lo 0, bnd st hi xs.length with
      | some (.slice e), some l, some h => match Nat.beq (P.cellsOf e) ty.sz with
        | true => cond (inS l h xs.length) (k (.sl ty ((xs.take h.toNat).drop l.toNat))) none
        | false => none
      | _, _, _ => none
    | .v (.string s) => match P.underlying t, bnd st lo 0, bnd st hi s.size with
      | some .string, some l, some h => cond (inS l h s.size) (k (.v (.string (s.extract l.toNat h.toNat)))) none
      | _, _, _ => none
    | _ => none
  | .call { callee := .builtin .len, args, argTypes } => match args.toList, argTypes.toList with
    | [x], [t] => match evLen P st t (st.ev x) with | some r => k r | none => none
    | _, _ => none
  | .call { callee := .builtin .min, args, argTypes } => match vals (args.toList.map st.ev) with
    | some vs => match comp P (Builtin.min_ argTypes o.type vs.toArray) with | some r => k (ofVal r) | none => none
    | none => none
  | .call { callee := .builtin .max, args, argTypes } => match vals (args.toList.map st.ev) with
    | some vs => match comp P (Builtin.max_ argTypes o.type vs.toArray) with | some r => k (ofVal r) | none => none
    | none => none
  | .call { callee := .value (.func f), args, .. } => match st.snapArgs (args.toList.map st.ev) with
    | some as => match G f as with
      | some (c, r) => match flatR r with | some _ => cond c (k r) none | none => none
      | none => none
    | none => none
  | _ => match evQ P st o with | some r => k r | none => none
/-- Own rows handed on for good. -/
def St.frz1 (st : St) : AV → Option (AV × St)
  | .v x => some (.v x, st)
  | .sl t xs => some (.sl t xs, st)
  | .own b => match st.heap[b]? with
    | some (.arr _ t xs) => some (.sl t xs, { st with heap := st.heap.set b (.ro t xs) })
    | some (.ro t xs) => some (.sl t xs, st)
    | _ => none
  | _ => none
def St.frzs (st : St) : List AV → Option (List AV × St)
  | [] => some ([], st)
  | x :: r => match st.frz1 x with
    | some (y, st1) => match st1.frzs r with | some (ys, st2) => some (y :: ys, st2) | none => none
    | none => none
def St.frz (st : St) : AV → Option (AV × St)
  | .agg cs => match st.frzs cs with | some (ys, st1) => some (.agg ys, st1) | none => none
  | x => st.frz1 x
def St.frzArgs (st : St) : List AV → Option (List AV × St)
  | [] => some ([], st)
  | x :: r => match st.frz x with
    | some (y, st1) => match st1.frzArgs r with | some (ys, st2) => some (y :: ys, st2) | none => none
    | none => none
/-- Elements out of cells. -/
def decAll (t : Ty) : Nat → List AV → Option (List t.T)
  | 0, [] => some []
  | n + 1, cs => match t.dec (cs.take t.sz), decAll t n (cs.drop t.sz) with | some x, some xs => some (x :: xs) | _, _ => none
  | _, _ => none
def castL (t t' : Ty) (xs : List t'.T) : Option (List t.T) := match decEq t' t with | isTrue h => some (h ▸ xs) | isFalse _ => none
/-- What an append reads. -/
def St.src (st : St) (t : Ty) : AV → Option (List t.T)
  | .sl t' xs => castL t t' xs
  | .own b => match st.heap[b]? with | some (.arr _ t' xs) => castL t t' xs | some (.ro t' xs) => castL t t' xs | _ => none
  | .v (.slice none 0 _) => some []
  | _ => none
/-- What an append adds to: the row is used up. -/
def St.base (st : St) (e : TypeId) (t : Ty) : AV → Option (List t.T × St)
  | .own b => match st.heap[b]? with
    | some (.arr e' t' xs) => match Nat.beq e' e, castL t t' xs with | true, some xs => some (xs, { st with heap := st.heap.set b .dead }) | _, _ => none
    | _ => none
  | .v (.slice none 0 0) => some ([], st)
  | _ => none
def leB (a b : Nat) : Bool := Nat.ble a b
/-- A called function's new rows become own ones. -/
def St.take1 (st : St) : AV → AV × St
  | .fr e t xs => (.own st.heap.length, { st with heap := st.heap ++ [.arr e t xs] })
  | x => (x, st)
def St.takes (st : St) : List AV → List AV × St
  | [] => ([], st)
  | x :: r => match st.take1 x with
    | (y, st1) => match st1.takes r with | (ys, st2) => (y :: ys, st2)
def St.takeR (st : St) : AV → AV × St
  | .tup cs => match st.takes cs with | (ys, st1) => (.tup ys, st1)
  | x => st.take1 x
def St.push (st : St) (k : Blk) (d : Option Nat) : St := ({ st with heap := st.heap ++ [k] } : St).put d (.own st.heap.length)
def evOp (P : Program) (G : Gam) (st : St) (o : Oper) (k : St → Option AV) : Option AV :=
  match o.op with
  | .box t x => match (st.ev x).cells with
    | some cs => k (({ st with heap := st.heap ++ [.cells cs] } : St).put o.dst (.ref st.heap.length 0))
    | none => none
  | .alloc t => match zeroOf P t with
    | some z => k (({ st with heap := st.heap ++ [.cells z] } : St).put o.dst (.ref st.heap.length 0))
    | none => none
  | .store t a x => match st.ev a, (st.ev x).cells with
    | .ref b off, some (x0 :: xs) => match st.heap[b]?, Nat.beq (x0 :: xs).length (P.cellsOf t) with
      | some (.cells cs), true => match wr cs off (x0 :: xs) with
        | some cs' => k (({ st with heap := st.heap.set b (.cells cs') } : St).put o.dst .undef)
        | none => none
      | _, _ => none
    | .oel b sz i off, some (x0 :: xs) => match st.heap[b]?, Nat.beq (x0 :: xs).length (P.cellsOf t) with
      | some (.arr e ty ys), true => match Nat.beq ty.sz sz, st.frzs (x0 :: xs) with
        | true, some (zs, st1) => match st1.heap[b]?, wr (ty.enc (nth ys i)) off zs with
          | some (.arr _ _ _), some cs' => match ty.dec cs' with
            | some y => k (({ st1 with heap := st1.heap.set b (.arr e ty (ys.set i y)) } : St).put o.dst .undef)
            | none => none
          | _, _ => none
        | _, _ => none
      | _, _ => none
    | _, _ => none
  | .makeSlice t l c => match P.underlying t, st.ev l, st.ev c with
    | some (.slice e), .v (.int .i64 n), .v (.int .i64 m) => match tyOf e, zeroOf P e, P.info? e with
      | some ty, some z, some i => match ty.dec z, Nat.beq i.size ty.sz, i.bytes with
        | some x, true, _ + 1 => cond (decide (n = m) && decide (0 ≤ n) && leB (n.toNat * i.bytes) 140737488355328) (k (st.push (.arr e ty (List.replicate n.toNat x)) o.dst)) none
        | _, _, _ => none
      | _, _, _ => none
    | _, _, _ => none
  | .buildSlice t len parts => match P.underlying t with
    | some (.slice e) => match tyOf e, zeroOf P e, P.info? e with
      | some ty, some z, some i => match Nat.beq i.size ty.sz && Nat.beq z.length ty.sz, Nat.ble len 4096, fillAV (fun j => some (j * i.size, i.size)) (List.replicate len z).flatten (evParts st parts.toList) with
        | true, true, some cs => match st.frzs cs with
          | some (zs, st1) => match decAll ty len zs with
            | some xs => k (st1.push (.arr e ty xs) o.dst)
            | none => none
          | none => none
        | _, _, _ => none
      | _, _, _ => none
    | _ => none
  | .call { callee := .builtin .append, args, argTypes } => match args.toList, argTypes.toList with
    | [s, x], [t, t'] => match P.underlying t with
      | some (.slice e) => match tyOf e, zeroOf P e, P.info? e with
        | some ty, some z, some i => match Nat.beq t t', Nat.beq i.size ty.sz && Nat.beq z.length ty.sz, i.bytes, st.base e ty (st.ev s) with
          | true, true, _ + 1, some (xs, st1) => match st1.src ty (st.ev x) with
            | some ys => cond (leB ((xs.length + ys.length) * i.bytes) 140737488355328) (k (st1.push (.arr e ty (xs ++ ys)) o.dst)) none
            | none => none
          | _, _, _, _ => none
        | _, _, _ => none
      | _ => none
    | _, _ => none
  | .slice t x lo hi none => match st.ev x with
    | .own b => match st.frz1 (.own b), P.underlying t with
      | some (.sl ty xs, st1), some (.slice e) => match bnd st lo 0, bnd st hi xs.length, Nat.beq (P.cellsOf e) ty.sz with
        | some l, some h, true => cond (inS l h xs.length) (k (st1.put o.dst (.sl ty ((xs.take h.toNat).drop l.toNat)))) none
        | _, _, _ => none
      | _, _ => none
    | _ => evT P G st o fun x => k (st.put o.dst x)
  | .call { callee := .value (.func f), args, .. } => match st.snapArgs (args.toList.map st.ev) with
    | some as => match G f as with
      | some (c, r) => match flatR r with
        | some _ => cond c (k (st.put o.dst r)) none
        | none => match st.frzArgs (args.toList.map st.ev) with
          | some (as', st1) => match G f as' with
            | some (c', r') => match st1.takeR r' with | (x, st2) => cond c' (k (st2.put o.dst x)) none
            | none => none
          | none => none
      | none => none
    | none => none
  | _ => evT P G st o fun x => k (st.put o.dst x)
/-- A region's operations in the order of the text; l: all of them. -/
def evOps (P : Program) (G : Gam) (l : List Oper) : List Oper → St → (St → Option AV) → Option AV
  | [], st, k => k st
  | o :: rest, st, k => match o.guard with
    | none => evOp P G st o fun st => evOps P G l rest st k
    | some (j, want) => match (l[j]?).bind (·.dst) with
      | some d => match st.get d with
        | .v (.bool t) => match want with
          | true => cond t (evOp P G (st.set d (.v (.bool true))) o fun st => evOps P G l rest st k) (evOps P G l rest ((st.set d (.v (.bool false))).put o.dst .undef) k)
          | false => cond t (evOps P G l rest ((st.set d (.v (.bool true))).put o.dst .undef) k) (evOp P G (st.set d (.v (.bool false))) o fun st => evOps P G l rest st k)
        | _ => none
      | none => none
/-- A region that draws its order. -/
def evOpsD (P : Program) (G : Gam) (l : List Oper) : List Oper → St → (St → Option AV) → Option AV
  | [], st, k => k st
  | o :: rest, st, k => match o.guard with
    | none => evT P G st o fun x => evOpsD P G l rest (st.put o.dst x) k
    | some (j, want) => match (l[j]?).bind (·.dst) with
      | some d => match st.get d with
        | .v (.bool t) => match want with
          | true => cond t (evT P G (st.set d (.v (.bool true))) o fun x => evOpsD P G l rest ((st.set d (.v (.bool true))).put o.dst x) k) (evOpsD P G l rest ((st.set d (.v (.bool false))).put o.dst .undef) k)
          | false => cond t (evOpsD P G l rest ((st.set d (.v (.bool true))).put o.dst .undef) k) (evT P G (st.set d (.v (.bool false))) o fun x => evOpsD P G l rest ((st.set d (.v (.bool false))).put o.dst x) k)
        | _ => none
      | none => none
def St.setOp (st : St) (c : Operand) (t : Bool) : St := match c with | .tmp d => st.set d (.v (.bool t)) | _ => st
/-- Does it lead to own blocks below m alone? -/
def AV.under (m : Nat) : AV → Bool
  | .ref b _ => Nat.blt b m
  | .own b => Nat.blt b m
  | .oel b _ _ _ => Nat.blt b m
  | .agg cs => go cs
  | .tup vs => go vs
  | _ => true
where go : List AV → Bool
  | [] => true
  | .ref b _ :: r => match Nat.blt b m with | true => go r | false => false
  | .own b :: r => match Nat.blt b m with | true => go r | false => false
  | .oel b _ _ _ :: r => match Nat.blt b m with | true => go r | false => false
  | .agg _ :: r => false
  | .tup _ :: r => false
  | _ :: r => go r
def allBelow (m : Nat) : List AV → Bool
  | [] => true
  | x :: r => match x.under m with | true => allBelow m r | false => false
def blksBelow (m : Nat) : List Blk → Bool
  | [] => true
  | .cells cs :: r => match allBelow m cs with | true => blksBelow m r | false => false
  | _ :: r => blksBelow m r
def clearAt (l : List Nat) : Nat → List AV → List AV
  | _, [] => []
  | i, x :: r => (match l.any (Nat.beq i) with | true => .undef | false => x) :: clearAt l (i + 1) r
/-- At a loop's head: the slots that are looked at no more are forgotten, and so are the blocks from m on. -/
def St.head (h : List Nat × Nat) (st : St) (k : St → Option AV) : Option AV :=
  match allBelow h.2 (clearAt h.1 0 st.env), blksBelow h.2 (st.heap.take h.2) with
  | true, true => k ⟨clearAt h.1 0 st.env, st.heap.take h.2, st.gl⟩
  | _, _ => none
/-- Jumps to loops' heads. -/
abbrev Jmp := Nat → St → Option AV
section
variable (P : Program) (G : Gam) (H : Nat → List Nat × Nat) (J : Jmp)
def inBlk (id : Nat) (k : Kn) : Kn
  | .exit j, st => match Nat.beq j id with | true => k .normal st | false => k (.exit j) st
  | e, st => k e st
def seqK (f : St → Option AV) (k : Kn) : Kn
  | .normal, st => f st
  | e, st => k e st
def ev : Nat → Code → Kn → St → Option AV
  | _, .skip, k, st => k .normal st
  | _, .region _ ops draw, k, st => match draw with
    | false => evOps P G ops.toList ops.toList st (k .normal)
    | true => match P.follows .mixedOrders, Region.lexB .any ops with
      | true, true => evOpsD P G ops.toList ops.toList st (k .normal)
      | _, _ => none
  | l, .seq a b, k, st => ev l a (seqK (ev l b k) k) st
  | l, .cond c a b, k, st => match st.ev c with
    | .v (.bool t) => cond t (ev l a k (st.setOp c true)) (ev l b k (st.setOp c false))
    | _ => none
  | _, .block id c, k, st => ev id c (inBlk id k) st
  | l, .loop _, _, st => st.head (H l) (J l)
  | _, .exit id, k, st => k (.exit id) st
  | _, .ret, k, st => k .ret st
  | _, _, _, _ => none
/-- A round of the loop in block 'at_'. -/
def stepAt (at_ : Nat) : Nat → Code → Kn → St → Option AV
  | l, .seq a b, k, st => match hasLoop at_ l a with
    | true => stepAt at_ l a (seqK (ev P G H J l b k) k) st
    | false => stepAt at_ l b k st
  | l, .cond _ a b, k, st => match hasLoop at_ l a with
    | true => stepAt at_ l a k st
    | false => stepAt at_ l b k st
  | _, .block id c, k, st => stepAt at_ id c (inBlk id k) st
  | l, .loop c, k, st => match Nat.beq l at_ with
    | true => ev P G H J l c (seqK (fun st => st.head (H l) (J l)) k) st
    | false => stepAt at_ l c (seqK (fun st => st.head (H l) (J l)) k) st
  | _, _, _, _ => none
where hasLoop (at_ : Nat) : Nat → Code → Bool
  | l, .seq a b => match hasLoop at_ l a with | true => true | false => hasLoop at_ l b
  | l, .cond _ a b => match hasLoop at_ l a with | true => true | false => hasLoop at_ l b
  | _, .block id c => hasLoop at_ id c
  | l, .loop c => match Nat.beq l at_ with | true => true | false => hasLoop at_ l c
  | _, _ => false
end
def raws (P : Program) (st : St) : List ResultVar → Option (List AV)
  | [] => some []
  | .tmp t :: r => match raws P st r with | some xs => some (st.get t :: xs) | none => none
  | .cell a ty :: r => match st.load P ty (st.get a), raws P st r with | some x, some xs => some (x :: xs) | _, _ => none
/-- A result: an own row is handed over whole. -/
def St.give1 (st : St) : AV → Option (AV × St)
  | .own b => match st.heap[b]? with
    | some (.arr e t xs) => some (.fr e t xs, { st with heap := st.heap.set b .dead })
    | some (.ro t xs) => some (.sl t xs, st)
    | _ => none
  | x => st.frz x
def St.gives (st : St) : List AV → Option (List AV × St)
  | [] => some ([], st)
  | x :: r => match st.give1 x with
    | some (y, st1) => match st1.gives r with | some (ys, st2) => some (y :: ys, st2) | none => none
    | none => none
/-- The end of a function. -/
def fin (P : Program) (fn : Func) : Kn
  | .exit _, _ => none
  | _, st => match raws P st fn.results.toList with
    | some l => match st.gives l with
      | some ([x], _) => some x
      | some (xs, _) => some (.tup xs)
      | none => none
    | none => none
def entry (gl : List AV) (fn : Func) (args : List AV) : St := ⟨args ++ List.replicate (fn.ntmps - args.length) .undef, [], gl⟩
def bodyOf (fn : Func) : Code := fn.body.getD .skip
/-- A function's run, with jumps. -/
def runF (P : Program) (G : Gam) (H : Nat → List Nat × Nat) (J : Jmp) (gl : List AV) (fn : Func) (args : List AV) : Option AV := ev P G H J 0 (bodyOf fn) (fin P fn) (entry gl fn args)
def runL (P : Program) (G : Gam) (H : Nat → List Nat × Nat) (fn : Func) : Nat → Jmp
  | 0, _, _ => none
  | n + 1, l, st => stepAt P G H (runL P G H fn n) l 0 (bodyOf fn) (fin P fn) st
end Go.Proofs.Ythobdipfccldgaa
