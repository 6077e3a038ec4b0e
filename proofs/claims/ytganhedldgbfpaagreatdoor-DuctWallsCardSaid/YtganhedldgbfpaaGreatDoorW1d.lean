import Derived.Test.YtganhedldgbfpaaGreatDoorSF
import Derived.Test.YtganhedldgbfpaaGreatDoorRows
set_option linter.unusedVariables false
set_option linter.unusedSimpArgs false
noncomputable section
open Go.IntKind (i64 u32)
namespace Go.Proofs.YtganhedldgbfpaaGreatDoor
abbrev aCfg (c : Config) : AV := .agg [.v (.int .i64 c.frames), .v (.int .i64 c.major), .v (.int .i64 c.kernel), .v (.int .i64 c.room), .sl (.sl .sWindow) c.cores, .sl .sPartition c.partitions, .sl .sChannel c.channels]
def zfX : TypeId -> List (Nat × TypeId) := fun _ => []
open Go.RowKit
noncomputable abbrev Pr : Program := Tryz.prog
def nowhere : Where := ⟨-1, -1⟩
def fine : AdmitFound := ⟨0, ⟨0, 0⟩⟩
def GL : List AV := [.el .sAdmitFound [fine] 0 0, .el .sWhere [nowhere] 0 0]
def lk : List (Nat × AV) -> Nat -> AV
 | [], _ => .undef
 | (j, x) :: r, i => match Nat.beq j i with | true => x | false => lk r i
def mkE (l : List (Nat × AV)) : Nat -> Nat -> List AV
 | 0, _ => []
 | n + 1, i => lk l i :: mkE l n (i + 1)
def fgt (keep : List Nat) : Nat -> Nat -> List Nat
 | 0, _ => []
 | n + 1, i => match keep.any (Nat.beq i) with | true => fgt keep n (i + 1) | false => i :: fgt keep n (i + 1)
def zqx : List (Nat × Hd) -> Nat -> Hd
 | [], _ => ⟨[], []⟩
 | (j, x) :: r, i => match Nat.beq j i with | true => x | false => zqx r i
def zhr {L R : Type} (bod : (L -> Option R) -> L -> Option R) : Nat -> L -> Option R
 | 0, _ => none
 | n + 1, l => bod (zhr bod n) l
theorem zb {α β : Type} (f : α -> β) (b : Bool) (x y : Option α) : (cond b x y).map f = cond b (x.map f) (y.map f) := by cases b <;> rfl
theorem zG {α : Type} (b : Bool) (x y : Option α) : (cond b x y).isSome = cond b x.isSome y.isSome := by cases b <;> rfl
theorem zT {b x : Bool} : cond b x x = x := by cases b <;> rfl
theorem zE {α : Type} [Inhabited α] {o : Option α} (h : o.isSome = true) : o = some (o.getD default) := by cases o with | none => cases h | some x => rfl
def Le {R : Type} (a b : Option R) : Prop := ∀ r, a = some r -> b = some r
open Classical in
noncomputable def lim {R : Type} (f : Nat -> Option R) : Option R := if h : ∃ n r, f n = some r then f h.choose else none
def Chain {R : Type} (f : Nat -> Option R) : Prop := ∀ n, Le (f n) (f (n + 1))
theorem Chain.le {R : Type} {f : Nat -> Option R} (h : Chain f) {n m : Nat} (hm : n <= m) : Le (f n) (f m) := by
 induction hm with
 | refl => exact fun r h => h
 | step _ ih => exact fun r hr => h _ r (ih r hr)
theorem ztM {R : Type} {f : Nat -> Option R} (h : Chain f) {n : Nat} {r : R} (hr : f n = some r) : lim f = some r := by
 have hex : ∃ n r, f n = some r := ⟨n, r, hr⟩
 unfold lim
 rw [dif_pos hex]
 obtain ⟨r', h'⟩ := hex.choose_spec
 rcases Nat.le_total n hex.choose with h1 | h1
 . exact h.le h1 r hr
 . have := h.le h1 r' h'
   rw [hr] at this
   rw [h', this]
theorem zwc {R : Type} {f : Nat -> Option R} {r : R} (h : lim f = some r) : ∃ n, f n = some r := by
 unfold lim at h
 split at h
 . exact ⟨_, h⟩
 . cases h
structure CT {L R S : Type} (t : (L -> Option R) -> Option S) : Prop where
 mono : ∀ j j', (∀ l, Le (j l) (j' l)) -> Le (t j) (t j')
 fin : ∀ s : Nat -> L -> Option R, (∀ l, Chain fun n => s n l) -> ∀ r, t (fun l => lim fun n => s n l) = some r -> ∃ n, t (s n) = some r
theorem CT.const {L R S : Type} (x : Option S) : CT (L := L) (R := R) fun _ => x := ⟨fun _ _ _ _ h => h, fun _ _ _ h => ⟨0, h⟩⟩
theorem CT.jump {L R : Type} (l : L) : CT (R := R) fun j => j l := ⟨fun _ _ h => h l, fun _ _ _ h => zwc h⟩
theorem CT.cond {L R S : Type} {c : Bool} {a b : (L -> Option R) -> Option S} (ha : CT a) (hb : CT b) : CT fun j => cond c (a j) (b j) := by
 cases c
 . exact hb
 . exact ha
section
variable {L R : Type} {bod : (L -> Option R) -> L -> Option R}
theorem zhs (h : ∀ l, CT fun j => bod j l) : ∀ n l, Le (zhr bod n l) (zhr bod (n + 1) l)
 | 0, l => fun r hr => by cases hr
 | n + 1, l => (h l).mono _ _ (zhs h n)
noncomputable def lfp (bod : (L -> Option R) -> L -> Option R) (l : L) : Option R := lim fun n => zhr bod n l
theorem zI (h : ∀ l, CT fun j => bod j l) (l : L) : lfp bod l = bod (lfp bod) l := by
 have hc : ∀ l, Chain fun n => zhr bod n l := fun l n => zhs h n l
 cases hr : bod (lfp bod) l with
 | some r =>
  obtain ⟨n, hn⟩ := (h l).fin (zhr bod) hc r hr
  exact ztM (hc l) (n := n + 1) hn
 | none =>
  cases hl : lfp bod l with
  | none => rfl
  | some r =>
   exfalso
   obtain ⟨n, hn⟩ := zwc hl
   cases n with
   | zero => cases hn
   | succ n =>
    have := (h l).mono (zhr bod n) (lfp bod) (fun l' r' h' => ztM (hc l') h') r hn
    rw [hr] at this
    cases this
theorem zDV {bodA : (L -> Option zY) -> L -> Option zY} {entA : (L -> Option zY) -> Option zY} {entP : (L -> Option R) -> Option R} {toA : R -> zY} (hn : ∀ s l, bodA (fun l => (s l).map toA) l = (bod s l).map toA) (he : ∀ s, entA (fun l => (s l).map toA) = (entP s).map toA) (hc : ∀ l, CT fun j => bod j l) (hce : CT entP) {r : R} (h : entP (lfp bod) = some r) : ∃ n, entA (zhr bodA n) = some (toA r) := by
 obtain ⟨n, hn'⟩ := hce.fin (zhr bod) (fun l n => zhs hc n l) r h
 have key : ∀ n, zhr bodA n = fun l => (zhr bod n l).map toA := by
  intro n
  induction n with
  | zero => funext l; rfl
  | succ n ih => funext l; show bodA (zhr bodA n) l = _; rw [ih]; exact hn _ l
 refine ⟨n, ?_⟩
 rw [key, he, hn']
 rfl
end
theorem zzY {R : Type} {entA : Option zY} {entP : Option R} {toA : R -> zY} (he : entA = entP.map toA) {r : R} (h : entP = some r) : entA = some (toA r) := by rw [he, h]; rfl
theorem zH {R L : Type} [Inhabited R] {G : Gam} (hG : GOk Pr GL G) {H : z9} (hD : zqj (CD Pr) Pr GL H.dfr) {f : FuncId} {fn : Func} {c : Code} (hf : Pr.funcs[f]? = some fn) (hb : fn.body = some c) (hu : okL H 0 c = true) {args : List AV} {hp : List Blk}
 (to : R -> zY) (num : L -> Nat) (st : L -> St) {bodA : (L -> Option zY) -> L -> Option zY} {entA : (L -> Option zY) -> Option zY} {bod : (L -> Option R) -> L -> Option R} {ent : (L -> Option R) -> Option R} (head : ∀ (J : Jmp) l, stepAt Pr G H J (num l) 0 (zls fn) (fin Pr H fn) (st l) = bodA (fun l => J (num l) (st l)) l)
 (run : ∀ J : Jmp, zMd Pr G H J GL fn args hp = entA (fun l => J (num l) (st l))) (nat : ∀ s l, bodA (fun l => (s l).map to) l = (bod s l).map to) (natE : ∀ s, entA (fun l => (s l).map to) = (ent s).map to) (ct : ∀ l, CT fun j => bod j l) (ctE : CT fun j => ent j)
 (hc : (ent (lfp bod)).isSome = true) : Okay Pr GL f args hp (to ((ent (lfp bod)).getD default)) := by
 have hs : ∀ (n : Nat) (l : L), zy7 Pr G H fn n (num l) (st l) = zhr bodA n l := by
  intro n
  induction n with
  | zero => exact fun l => rfl
  | succ n ih =>
   intro l
   have e : (fun l => zy7 Pr G H fn n (num l) (st l)) = zhr bodA n := funext ih
   exact (head _ l).trans (by rw [e]; rfl)
 obtain ⟨n, h⟩ := zDV nat natE ct ctE (zE hc)
 exact zkC (H := H) hG hD hf hb hu n (by rw [run, show (fun l => zy7 Pr G H fn n (num l) (st l)) = zhr bodA n from funext (hs n)]; exact h)
theorem zw {R : Type} [Inhabited R] {G : Gam} (hG : GOk Pr GL G) {H : z9} (hD : zqj (CD Pr) Pr GL H.dfr) {f : FuncId} {fn : Func} {c : Code} (hf : Pr.funcs[f]? = some fn) (hb : fn.body = some c) (hu : okL H 0 c = true) {args : List AV} {hp : List Blk}
 (to : R -> zY) {entA : Option zY} {ent : Option R} (run : ∀ J : Jmp, zMd Pr G H J GL fn args hp = entA) (natE : entA = ent.map to) (hc : ent.isSome = true) : Okay Pr GL f args hp (to (ent.getD default)) :=
 zkC (H := H) hG hD hf hb hu 0 ((run _).trans (zzY natE (zE hc)))
def Has (x : AV) : Prop := ∃ F w β y, V F w β x y
theorem Has.len {t : Ty} {xs : List t.T} (h : Has (.sl t xs)) : xs.length <= 140737488355328 := by
 obtain ⟨F, w, β, y, h⟩ := h
 cases h
 . simp
 . assumption
theorem Has.cell {cs : List AV} (h : Has (.agg cs)) (j : Nat) (hj : j < cs.length) : Has (cs.getD j .undef) := by
 obtain ⟨F, w, β, y, h⟩ := h
 cases h with | agg _ ys hl hc => exact ⟨F, w, β, _, hc j hj⟩
theorem zaO (n : Int) (h0 : -9223372036854775808 <= n) (h1 : n < 9223372036854775808) : i64.wrap n = n := by
 simp [IntKind.wrap, IntKind.bits, IntKind.signed]; omega
theorem zh {i : Nat} {n : Nat} (h : i < n) : zU (i : Int) n = true := inR_iff.2 ⟨by omega, by omega⟩
noncomputable def mn (a b : Int) : Int := match zfv Pr (Builtin.min_ #[3, 3] 3 #[.int .i64 a, .int .i64 b]) with | some (.int _ n) => n | _ => 0
def zbW (s : ByteArray) (i : Nat) : Int := (((s.data.getD i 0).toNat : Nat) : Int)
noncomputable def bop (op : BinOp) (k : IntKind) (a b : Int) : Int := match zfv Pr (binOp op 3 (.int k a) (.int k b)) with | some (.int _ n) => n | _ => 0
def zN (xs : List Int) (i : Nat) : Int := xs.getD i 0
def zba (xs : List Bool) (i : Nat) : Bool := xs.getD i false
def zfk (xs : List Clo) (i : Nat) : Clo := xs.getD i .none
def zak (xs : List (List Int)) (i : Nat) : List Int := xs.getD i []
def zaZ (xs : List Window) (i : Nat) : Window := xs.getD i default
def zq (xs : List (List Window)) (i : Nat) : List Window := xs.getD i []
def zm (xs : List Region) (i : Nat) : Region := xs.getD i default
def zaI (xs : List Port) (i : Nat) : Port := xs.getD i default
def za (xs : List Partition) (i : Nat) : Partition := xs.getD i default
def zo (xs : List Channel) (i : Nat) : Channel := xs.getD i default
def zaa (xs : List PartitionPlace) (i : Nat) : PartitionPlace := xs.getD i default
def zb3 (xs : List DestPlace) (i : Nat) : DestPlace := xs.getD i default
def zx (xs : List ChannelPlace) (i : Nat) : ChannelPlace := xs.getD i default
def zaj (xs : List Bulkheadlaw21Op) (i : Nat) : Bulkheadlaw21Op := xs.getD i default
def zaY (xs : List Bulkheadref15Piece) (i : Nat) : Bulkheadref15Piece := xs.getD i default
def zg6 (xs : List QueueRow) (i : Nat) : QueueRow := xs.getD i default
def zc9 (xs : List AdmitFound) (i : Nat) : AdmitFound := xs.getD i default
def zF (xs : List LayoutEnd) (i : Nat) : LayoutEnd := xs.getD i default
theorem zt {α β : Type} {f : α -> β} {a : α} : (some a).map f = some (f a) := rfl
theorem zu {α β : Type} {f : α -> β} : (none : Option α).map f = none := rfl
theorem ctK {L R S : Type} (x : Option S) : CT (L := L) (R := R) fun _ => x := CT.const x
theorem ctJ {L R : Type} (l : L) : CT (R := R) fun j => j l := CT.jump l
theorem ctC {L R S : Type} {c : Bool} {a b : (L -> Option R) -> Option S} (ha : CT a) (hb : CT b) : CT fun j => cond c (a j) (b j) := CT.cond ha hb
abbrev stt (l : List (Nat × AV)) (n : Nat) (h : List Blk) (p : Nat) : St := ⟨mkE l n 0, h, GL, p, [], zfX⟩
abbrev htt (c : List Nat) (h : List (Nat × Hd)) (f : List (At × Cv)) : z9 := ⟨fun n => c.any (Nat.beq n), zqx h, f, G0, zfX⟩
abbrev ze (n : Int) : AV := .v (.int .i64 n)
abbrev avU (n : Int) : AV := .v (.int .u32 n)
abbrev z8 (b : Bool) : AV := .v (.bool b)
abbrev avG (a b d e : Int) (f : List (List Window)) (g : List Partition) (h : List Channel) (i : Int) (k : List PartitionPlace) (l : List ChannelPlace) (n : Int) (m : Option MemMemory) (o : Nat) : List AV := [ze a, ze b, ze d, ze e, .sl (.sl .sWindow) f, .sl .sPartition g, .sl .sChannel h, ze i, .sl .sPartitionPlace k, .sl .sChannelPlace l, ze n, .op .sMemMemory m, .own o]
abbrev avF (c : Config) (l : Layout) (m : Option MemMemory) (o : Nat) : List AV := avG c.frames c.major c.kernel c.room c.cores c.partitions c.channels l.barrier l.partitions l.channels l.end_ m o
def rdS (t : Ty) : AV -> Option t.T
 | .agg cs => t.dec cs
 | _ => none
def z7 (t : Ty) (x : AV) : Option t.T := match Nat.beq t.sz 1, x with
 | true, .agg _ => none
 | true, .tup _ => none
 | true, x => t.dec [x]
 | false, _ => none
def rdP (t : Ty) (x : AV) : Option t.T := match zde t x with | some (some x) => some x | _ => none
inductive Ats : List AV -> List AV -> Prop
 | nil : Ats [] []
 | cons {x z : AV} {l r : List AV} (h : ∀ F w β y, V F w β x y -> V F w β z y) (h' : Ats l r) : Ats (x :: l) (z :: r)
theorem Ats.refl : ∀ l : List AV, Ats l l
 | [] => .nil
 | _ :: l => .cons (fun _ _ _ _ h => h) (Ats.refl l)
theorem Ats.len {l r : List AV} (h : Ats l r) : l.length = r.length := by
 induction h with
 | nil => rfl
 | cons _ _ ih => simp [ih]
theorem Ats.get {l r : List AV} (h : Ats l r) : ∀ (j : Nat) F w β y, V F w β (l.getD j .undef) y -> V F w β (r.getD j .undef) y := by
 induction h with
 | nil => intro j F w β y h; exact h
 | cons h0 _ ih =>
  intro j F w β y h
  cases j with
  | zero => exact h0 F w β y h
  | succ j => exact ih j F w β y h
theorem Okay.ats {P : Program} {GL : List AV} {f : FuncId} {args args' : List AV} {hp : List Blk} {r : zY} (h : Okay P GL f args' hp r) (ha : Ats args args') : Okay P GL f args hp r :=
 fun F w β vs hh hg hl hv => h F w β vs hh hg (hl.trans ha.len) fun j hj => ha.get j F w β _ (hv j (by rw [ha.len]; exact hj))
theorem zIN {F : Nat -> Prop} {w : World} {β : Gh} {cs zs : List AV} {ys : Array Value} (hl : cs.length = zs.length) (hf : Fits F w β cs zs) (h : V F w β (.agg cs) (.agg ys)) : V F w β (.agg zs) (.agg ys) := by
 cases h with
 | agg _ _ hy hc => exact .agg _ _ (hy.trans hl) fun j hj => hf j _ (by omega) (hc j (by omega))
theorem zM {t : Ty} {x : AV} {s : t.T} (h : rdS t x = some s) : ∀ F w β y, V F w β x y -> V F w β (.agg (t.enc s)) y := by
 intro F w β y hv
 unfold rdS at h
 split at h
 . rename_i cs
   obtain ⟨h1, h2⟩ := za0 (F := F) (w := w) (β := β) h
   cases hv with
   | agg _ ys hl hc => exact zIN (by rw [h1, zab]) h2 (.agg _ ys hl hc)
 . cases h
theorem zn {t : Ty} {x : AV} {s : t.T} (h : z7 t x = some s) : ∀ F w β y, V F w β x y -> V F w β ((t.enc s).getD 0 .undef) y := by
 intro F w β y hv
 unfold z7 at h
 split at h
 . cases h
 . cases h
 . obtain ⟨h1, h2⟩ := za0 (F := F) (w := w) (β := β) h
   exact h2 0 y (by simp) (by simpa using hv)
 . cases h
theorem zfq {t : Ty} {x : AV} {s : t.T} (h : rdP t x = some s) : ∀ F w β y, V F w β x y -> V F w β (.op t (some s)) y := by
 intro F w β y hv
 unfold rdP at h
 split at h
 . rename_i ho
   simp at h; subst h
   exact zZ ho hv
 . cases h
theorem zC {n : FuncId} {fn : Func} {c : Code} (h : Pr.funcs[n]? = some fn) (hn : (fn.name == "runtime.NumGoroutine") = false) (hb : fn.body = some c) : zlk Pr n := ⟨fn, h, hn, by rw [hb]; rfl⟩
abbrev zcS := Bool × AV × List Blk
def zD (f : FuncId) (g : List AV -> List Blk -> Option zcS) : Prop := ∀ args hp b r hp', g args hp = some (b, r, hp') -> b = true -> zlk Pr f /\ Okay Pr GL f args hp ⟨r, hp'⟩
def zV {α : Type} (r : AV -> Option α) (k : α -> List AV -> Option zcS) : List AV -> Option zcS
 | x :: l => (r x).bind fun a => k a l
 | [] => none
def zP (q : zcS) : List AV -> Option zcS
 | [] => some q
 | _ :: _ => none
def zQ (k : List AV -> Option zcS) (args : List AV) (hp : List Blk) : Option zcS := match hp with | [] => k args | _ :: _ => none
def zCT (f : FuncId) (pre : List AV) (k : List AV -> Option zcS) : Prop := ∀ l q, k l = some q -> q.1 = true -> Okay Pr GL f (pre ++ l) [] ⟨q.2.1, q.2.2⟩
theorem zg {f : FuncId} {pre : List AV} {α : Type} {r : AV -> Option α} {k : α -> List AV -> Option zcS} (h : ∀ x a, r x = some a -> zCT f (pre ++ [x]) (k a)) : zCT f pre (zV r k) := by
 intro l q hq hb
 cases l with
 | nil => cases hq
 | cons x l =>
  simp only [zV, Option.bind_eq_some_iff] at hq
  obtain ⟨a, h1, h2⟩ := hq
  have := h x a h1 l q h2 hb
  rwa [List.append_assoc] at this
theorem zi {f : FuncId} {pre : List AV} {q : zcS} (h : q.1 = true -> Okay Pr GL f pre [] ⟨q.2.1, q.2.2⟩) : zCT f pre (zP q) := by
 intro l q' hq hb
 cases l with
 | nil => simp only [zP] at hq; cases hq; rw [List.append_nil]; exact h hb
 | cons x l => cases hq
theorem zj {f : FuncId} (hf : zlk Pr f) {k : List AV -> Option zcS} (h : zCT f [] k) : zD f (zQ k) := by
 intro args hp b r hp' hq hb
 cases hp with
 | nil => exact ⟨hf, h args _ hq hb⟩
 | cons x l => cases hq
def zzs : List (FuncId × (List AV -> List Blk -> Option zcS)) -> FuncId -> List AV -> List Blk -> Option zcS -> Option zcS
 | [], _, _, _, d => d
 | (n, g) :: l, f, args, hp, d => match Nat.beq n f with | true => g args hp | false => zzs l f args hp d
def zsi : List (FuncId × (List AV -> List Blk -> Option zcS)) -> Prop
 | [] => True
 | (n, g) :: l => zD n g /\ zsi l
theorem zli : ∀ {l : List (FuncId × (List AV -> List Blk -> Option zcS))}, zsi l -> ∀ {f : FuncId} {args : List AV} {hp : List Blk} {d : Option zcS} {b : Bool} {r : AV} {hp' : List Blk}, zzs l f args hp d = some (b, r, hp') -> (d = some (b, r, hp') -> OkC Pr GL (.f f) args hp ⟨r, hp'⟩) -> b = true -> OkC Pr GL (.f f) args hp ⟨r, hp'⟩
 | [], _, f, args, hp, d, b, r, hp', h, hd, hb => hd h
 | (n, g) :: l, hl, f, args, hp, d, b, r, hp', h, hd, hb => by
  simp only [zzs] at h
  split at h
  . rename_i hn
    have := Nat.eq_of_beq_eq_true hn
    subst this
    exact hl.1 args hp b r hp' h hb
  . exact zli hl.2 h hd hb
noncomputable def zmr (l : List (FuncId × (List AV -> List Blk -> Option zcS))) (base : Gam) : Gam := fun c args hp => match c with
 | .f f => zzs l f args hp (base (.f f) args hp)
 | .c x => base (.c x) args hp
 | .a f => base (.a f) args hp
noncomputable def zFv (l : List (FuncId × (List AV -> List Blk -> Option zcS))) (base : Gam) : Gam := fun c args hp => match c with
 | .f f => base (.f f) args hp
 | .c x => base (.c x) args hp
 | .a f => zzs l f args hp (base (.a f) args hp)
theorem zqu {l : List (FuncId × (List AV -> List Blk -> Option zcS))} {base : Gam} (hl : zsi l) (hb : GOk Pr GL base) : GOk Pr GL (zFv l base) := fun c args hp b r hp' h ht => match c with
 | .f f => hb (.f f) args hp b r hp' h ht
 | .c x => hb (.c x) args hp b r hp' h ht
 | .a f => zli hl h (fun hd => hb (.a f) args hp b r hp' hd ht) ht
theorem zcG {l : List (FuncId × (List AV -> List Blk -> Option zcS))} {base : Gam} (hl : zsi l) (hb : GOk Pr GL base) : GOk Pr GL (zmr l base) := fun c args hp b r hp' h ht => match c with
 | .f f => zli hl h (fun hd => hb (.f f) args hp b r hp' hd ht) ht
 | .c x => hb (.c x) args hp b r hp' h ht
 | .a f => hb (.a f) args hp b r hp' h ht
noncomputable def gamC (l : List (FuncId × (List AV -> List Blk -> Option zcS))) (cl : Clo -> List AV -> List Blk -> Option zcS) (base : Gam) : Gam := fun c args hp => match c with
 | .f f => zzs l f args hp (base (.f f) args hp)
 | .c x => cl x args hp
 | .a f => base (.a f) args hp
theorem zFw {l : List (FuncId × (List AV -> List Blk -> Option zcS))} {cl : Clo -> List AV -> List Blk -> Option zcS} {base : Gam} (hl : zsi l) (hc : ∀ {x : Clo} {args : List AV} {hp : List Blk} {b : Bool} {r : AV} {hp' : List Blk}, cl x args hp = some (b, r, hp') -> b = true -> OkC Pr GL (.c x) args hp ⟨r, hp'⟩) (hb : GOk Pr GL base) : GOk Pr GL (gamC l cl base) := fun c args hp b r hp' h ht => match c with
 | .f f => zli hl h (fun hd => hb (.f f) args hp b r hp' hd ht) ht
 | .c x => hc h ht
 | .a f => hb (.a f) args hp b r hp' h ht
abbrev R62 := Bool
def zGL (r : R62) : zY := ⟨(z8 r), []⟩
inductive L62 where | l0 (x0 : Int) | l4 (x0 : Int)
def zPI : L62 -> Nat | .l0 _ => 0 | .l4 _ => 4
def H62 : z9 := htt [] [(0, ⟨fgt [2, 3, 5] 101 0, []⟩), (4, ⟨fgt [2, 3, 6] 101 0, []⟩)] []
noncomputable def st62 (a : Partition) (b : Partition) : L62 -> St | .l0 x0 => stt [(2, .ref 0 0), (3, .ref 1 0), (5, (ze x0))] 101 [.cells 55 (Ty.enc .sPartition a), .cells 55 (Ty.enc .sPartition b)] 0 | .l4 x0 => stt [(2, .ref 0 0), (3, .ref 1 0), (6, (ze x0))] 101 [.cells 55 (Ty.enc .sPartition a), .cells 55 (Ty.enc .sPartition b)] 0
noncomputable def zfF {R : Type} (ret : R62 -> R) (a : Partition) (b : Partition) (j : L62 -> Option R) : L62 -> Option R | .l0 x0 =>let y1 := zm a.regions x0.toNat; let y2 := zm b.regions x0.toNat;  cond (decide (x0 < a.regions.length)) (cond (zU x0 a.regions.length) ( cond (zU x0 b.regions.length) ( cond (!(((y1.page : Int) == (y2.page)) && (((y1.pages : Int) == (y2.pages)) && (((y1.frame : Int) == (y2.frame)) && (((y1.rights : Int) == (y2.rights)) && true))))) (some (ret false)) (j (.l0 (i64.wrap (x0 + 1))))) none) none) (j (.l4 0)) | .l4 x0 =>let y1 := zaI a.ports x0.toNat; let y2 := zaI b.ports x0.toNat;  cond (decide (x0 < a.ports.length)) (cond (zU x0 a.ports.length) ( cond (zU x0 b.ports.length) ( cond (!(((y1.channel : Int) == (y2.channel)) && (((y1.source) == (y2.source)) && true))) (some (ret false)) (j (.l4 (i64.wrap (x0 + 1))))) none) none) (some (ret true))
noncomputable def zoC {R : Type} (ret : R62 -> R) (a : Partition) (b : Partition) (j : L62 -> Option R) : Option R := cond (!(a.name.toList == b.name.toList)) (some (ret false)) (cond (!((a.entry : Int) == b.entry)) (some (ret false)) (cond (!((a.action : Int) == b.action)) (some (ret false)) (cond (!((a.restarts : Int) == b.restarts)) (some (ret false)) (cond (!((a.inputs : Int) == b.inputs)) (some (ret false)) (cond (!((a.outputs : Int) == b.outputs)) (some (ret false)) (cond (!((a.regions.length : Int) == b.regions.length)) (some (ret false)) (cond (!((a.ports.length : Int) == b.ports.length)) (some (ret false)) (j (.l0 0)))))))))
theorem ct62 (a : Partition) (b : Partition) (l : L62) : CT fun j => zfF id a b j l := by cases l <;> (dsimp only [zfF]; repeat (first | exact ctJ _ | exact ctK _ | apply ctC))
def znh (a : Partition) (b : Partition) : L62 -> Option R62 := lfp (zfF id a b)
theorem zir (a : Partition) (b : Partition) (l : L62) : znh a b l = zfF id a b (znh a b) l := zI (ct62 a b) l
def zwV (a : Partition) (b : Partition) : Option R62 := zoC id a b (znh a b)
def zGk (a : Partition) (b : Partition) : R62 := (zwV a b).getD default
def zxd (a : Partition) (b : Partition) : Bool := (zwV a b).isSome
theorem zQo (a : Partition) (b : Partition) (hc : zxd a b = true) : Okay Pr GL 62 [.agg (Ty.enc .sPartition a), .agg (Ty.enc .sPartition b)] [] (zGL (zGk a b)) := zH (H := H62) (bod := zfF id a b) (ent := zoC id a b) (bodA := zfF zGL a b) (entA := zoC zGL a b) zy zy Tryz.func62 rfl (by kernel_rfl) zGL zPI (st62 a b) (fun J l => by cases l <;> kernel_rfl) (fun J => by kernel_rfl) (fun s l => by cases l <;> simp only [zfF, zb, zt, zu, id]) (fun s => by simp only [zoC, zb, zt, zu, id]) (ct62 a b) (by dsimp only [zoC]; repeat (first | exact ctJ _ | exact ctK _ | apply ctC)) hc
abbrev R34 := DuctRow
def zGC (r : R34) : zY := ⟨.ifc 123 (.agg [(ze r.ends.stage), (ze r.ends.words), .own 0, (ze r.depth)]), [.arr 3 (.i .i64) r.ends.ports]⟩
inductive L34 where | l0 (x0 : Int) (x1 : List Int)
def zPz : L34 -> Nat | .l0 _ _ => 0
def H34 : z9 := htt [] [(0, ⟨fgt [5, 6, 37, 38, 39] 62 0, [(.box 6 2, .own 3 (.i .i64))]⟩)] [(.slot 0, .ift 123)]
noncomputable def st34 (d : (Option DuctDucts)) (n_1 : Int) : L34 -> St | .l0 x0 x1 => stt [(5, .ref 0 0), (6, .ref 1 0), (37, .sl .sDestPlace ((zx ((d.getD default).lay.channels) n_1.toNat).dests)), (38, (ze (((zx ((d.getD default).lay.channels) n_1.toNat).dests).length))), (39, (ze x0))] 62 [.cells 108 (Ty.enc .sChannel (zo ((d.getD default).c.channels) n_1.toNat)), .cells 121 [(ze ((zx ((d.getD default).lay.channels) n_1.toNat).stage)), (ze ((zo ((d.getD default).c.channels) n_1.toNat).words)), .own 2], .arr 3 (.i .i64) x1] 0
noncomputable def zfE {R : Type} (ret : R34 -> R) (d : (Option DuctDucts)) (n_1 : Int) (j : L34 -> Option R) : L34 -> Option R | .l0 x0 x1 =>let y1 := zx ((d.getD default).lay.channels) n_1.toNat; let y2 := zo ((d.getD default).c.channels) n_1.toNat; let y3 := zb3 (y1.dests) x0.toNat;  cond (decide (x0 < (y1.dests).length)) (cond (zU x0 (y1.dests).length) ( cond (leB (((x1 : List Int).length + ([y3.at_] : List Int).length) * 8) 140737488355328) ( j (.l0 (i64.wrap (x0 + 1)) ((x1 : List Int) ++ [y3.at_]))) none) none) (cond ((y2.kind : Int) == 2) ( some (ret (⟨(⟨y1.stage, y2.words, x1⟩ : DuctEnds), y2.depth⟩ : DuctRow))) none)
noncomputable def zmo {R : Type} (ret : R34 -> R) (d : (Option DuctDucts)) (n_1 : Int) (j : L34 -> Option R) : Option R := cond d.isSome ( cond (zU n_1 ((d.getD default).c.channels).length) ( cond d.isSome ( cond (zU n_1 ((d.getD default).lay.channels).length) (cond d.isSome (cond (zU n_1 ((d.getD default).lay.channels).length) (j (.l0 0 [])) none) none) none) none) none) none
theorem ct34 (d : (Option DuctDucts)) (n_1 : Int) (l : L34) : CT fun j => zfE id d n_1 j l := by cases l <;> (dsimp only [zfE]; repeat (first | exact ctJ _ | exact ctK _ | apply ctC))
def znf (d : (Option DuctDucts)) (n_1 : Int) : L34 -> Option R34 := lfp (zfE id d n_1)
theorem zin (d : (Option DuctDucts)) (n_1 : Int) (l : L34) : znf d n_1 l = zfE id d n_1 (znf d n_1) l := zI (ct34 d n_1) l
def zpT (d : (Option DuctDucts)) (n_1 : Int) : Option R34 := zmo id d n_1 (znf d n_1)
def za5 (d : (Option DuctDucts)) (n_1 : Int) : R34 := (zpT d n_1).getD default
def zgh (d : (Option DuctDucts)) (n_1 : Int) : Bool := (zpT d n_1).isSome
theorem zQb (d : (Option DuctDucts)) (n_1 : Int) (hc : zgh d n_1 = true) : Okay Pr GL 34 [.op .sDuctDucts d, (ze n_1)] [] (zGC (za5 d n_1)) := zH (H := H34) (bod := zfE id d n_1) (ent := zmo id d n_1) (bodA := zfE zGC d n_1) (entA := zmo zGC d n_1) zy zy Tryz.func34 rfl (by kernel_rfl) zGC zPz (st34 d n_1) (fun J l => by cases l <;> kernel_rfl) (fun J => by kernel_rfl) (fun s l => by cases l <;> simp only [zfE, zb, zt, zu, id]) (fun s => by simp only [zmo, zb, zt, zu, id]) (ct34 d n_1) (by dsimp only [zmo]; repeat (first | exact ctJ _ | exact ctK _ | apply ctC)) hc
abbrev zys := Bool
def zxM (r : zys) : zY := ⟨(z8 r), []⟩
inductive zsK where | l0 (x0 : Int)
def zKI : zsK -> Nat | .l0 _ => 0
def H170 : z9 := htt [] [(0, ⟨fgt [0, 24, 25] 50 0, []⟩)] []
noncomputable def zRg (s_0 : ByteArray) : zsK -> St | .l0 x0 => stt [(0, .v (.string s_0)), (24, (ze s_0.size)), (25, (ze x0))] 50 [] 0
noncomputable def zeW {R : Type} (ret : zys -> R) (s_0 : ByteArray) (j : zsK -> Option R) : zsK -> Option R | .l0 x0 =>let y1 := ((zbW s_0 x0.toNat) : Int); let y2 := i64.wrap (x0 + 1); let y3 := !(y1 == 45);  cond (decide (x0 < s_0.size)) (cond (zU x0 s_0.size) ( cond (decide (y1 < 97)) (cond (decide (y1 < 48)) (cond y3 (some (ret false)) (j (.l0 y2))) (cond (decide (y1 > 57)) (cond y3 (some (ret false)) (j (.l0 y2))) (j (.l0 y2)))) (cond (decide (y1 > 122)) (cond (decide (y1 < 48)) (cond y3 (some (ret false)) (j (.l0 y2))) (cond (decide (y1 > 57)) (cond y3 (some (ret false)) (j (.l0 y2))) (j (.l0 y2)))) (j (.l0 y2)))) none) (some (ret true))
noncomputable def zjb {R : Type} (ret : zys -> R) (s_0 : ByteArray) (j : zsK -> Option R) : Option R := cond (decide ((s_0.size : Int) < 1)) (some (ret false)) (cond (decide ((s_0.size : Int) > 16)) (some (ret false)) (cond (zU 0 s_0.size) ( cond (decide (((zbW s_0 0) : Int) < 97)) (some (ret false)) (cond (zU 0 s_0.size) (cond (decide (((zbW s_0 0) : Int) > 122)) (some (ret false)) (j (.l0 0))) none)) none))
theorem zHT (s_0 : ByteArray) (l : zsK) : CT fun j => zeW id s_0 j l := by cases l <;> (dsimp only [zeW]; repeat (first | exact ctJ _ | exact ctK _ | apply ctC))
def znc (s_0 : ByteArray) : zsK -> Option zys := lfp (zeW id s_0)
theorem zpM (s_0 : ByteArray) (l : zsK) : znc s_0 l = zeW id s_0 (znc s_0) l := zI (zHT s_0) l
def zrh (s_0 : ByteArray) : Option zys := zjb id s_0 (znc s_0)
def zt7 (s_0 : ByteArray) : zys := (zrh s_0).getD default
def znG (s_0 : ByteArray) : Bool := (zrh s_0).isSome
theorem zLx (s_0 : ByteArray) (hc : znG s_0 = true) : Okay Pr GL 170 [.v (.string s_0)] [] (zxM (zt7 s_0)) := zH (H := H170) (bod := zeW id s_0) (ent := zjb id s_0) (bodA := zeW zxM s_0) (entA := zjb zxM s_0) zy zy Tryz.func170 rfl (by kernel_rfl) zxM zKI (zRg s_0) (fun J l => by cases l <;> kernel_rfl) (fun J => by kernel_rfl) (fun s l => by cases l <;> simp only [zeW, zb, zt, zu, id]) (fun s => by simp only [zjb, zb, zt, zu, id]) (zHT s_0) (by dsimp only [zjb]; repeat (first | exact ctJ _ | exact ctK _ | apply ctC)) hc
abbrev R94 := Int
def zGT (r : R94) : zY := ⟨(ze r), []⟩
inductive L94 where | l0 (x0 : Int) (x1 : Bool) (x2 : Bool) (x3 : Bool) (x4 : Bool) (x5 : Bool) (x6 : Bool) (x7 : Bool) (x8 : Bool) (x9 : Bool) (x10 : Bool) (x11 : Bool) (x12 : Bool) (x13 : Bool) (x14 : Bool) (x15 : Bool) (x16 : Bool) | l4 (x17 : Int) (x18 : Int) (x0 : Int) (x1 : Bool) (x2 : Bool) (x3 : Bool) (x4 : Bool) (x5 : Bool) (x6 : Bool) (x7 : Bool) (x8 : Bool) (x9 : Bool) (x10 : Bool) (x11 : Bool) (x12 : Bool) (x13 : Bool) (x14 : Bool) (x15 : Bool) (x16 : Bool) (x19 : Int) (x20 : Int) (x21 : Int) (x22 : Int) | l8 (x0 : Int) (x2 : Bool) (x3 : Bool) (x4 : Bool) (x5 : Bool) (x6 : Bool) (x7 : Bool) (x8 : Bool) (x9 : Bool) (x10 : Bool) (x11 : Bool) (x12 : Bool) (x13 : Bool) (x14 : Bool) (x15 : Bool) (x16 : Bool) (x17 : Bool) (x1 : Int) | l35 (x0 : Int) (x2 : Bool) (x3 : Bool) (x4 : Bool) (x5 : Bool) (x6 : Bool) (x7 : Bool) (x8 : Bool) (x9 : Bool) (x10 : Bool) (x11 : Bool) (x12 : Bool) (x13 : Bool) (x14 : Bool) (x15 : Bool) (x16 : Bool) (x17 : Bool) (x1 : Int)
def zPQ : L94 -> Nat | .l0 _ _ _ _ _ _ _ _ _ _ _ _ _ _ _ _ _ => 0 | .l4 _ _ _ _ _ _ _ _ _ _ _ _ _ _ _ _ _ _ _ _ _ _ _ => 4 | .l8 _ _ _ _ _ _ _ _ _ _ _ _ _ _ _ _ _ _ => 8 | .l35 _ _ _ _ _ _ _ _ _ _ _ _ _ _ _ _ _ _ => 35
def H94 : z9 := htt [17] [(0, ⟨fgt [3, 11, 12, 13] 39 0, []⟩), (4, ⟨fgt [3, 5, 11, 12, 13, 18, 19] 39 0, []⟩), (8, ⟨fgt [7, 30, 31] 39 0, []⟩), (35, ⟨fgt [7, 30, 31] 39 0, []⟩)] []
noncomputable def st94 (x : Partition) : L94 -> St | .l0 x0 x1 x2 x3 x4 x5 x6 x7 x8 x9 x10 x11 x12 x13 x14 x15 x16 => stt [(3, .ref 0 0), (11, .sl .sRegion x.regions), (12, (ze x.regions.length)), (13, (ze x0))] 39 [.cells 240 [(z8 x1), (z8 x2), (z8 x3), (z8 x4), (z8 x5), (z8 x6), (z8 x7), (z8 x8), (z8 x9), (z8 x10), (z8 x11), (z8 x12), (z8 x13), (z8 x14), (z8 x15), (z8 x16)]] 0 | .l4 x17 x18 x0 x1 x2 x3 x4 x5 x6 x7 x8 x9 x10 x11 x12 x13 x14 x15 x16 x19 x20 x21 x22 => stt [(3, .ref 0 0), (5, .ref 1 0), (11, .sl .sRegion x.regions), (12, (ze x.regions.length)), (13, (ze x17)), (18, (ze x18)), (19, (ze x0))] 39 [.cells 240 [(z8 x1), (z8 x2), (z8 x3), (z8 x4), (z8 x5), (z8 x6), (z8 x7), (z8 x8), (z8 x9), (z8 x10), (z8 x11), (z8 x12), (z8 x13), (z8 x14), (z8 x15), (z8 x16)], .cells 136 [(ze x19), (ze x20), (ze x21), (ze x22)]] 0 | .l8 x0 x2 x3 x4 x5 x6 x7 x8 x9 x10 x11 x12 x13 x14 x15 x16 x17 x1 => stt [(7, (ze x0)), (30, .agg [(z8 x2), (z8 x3), (z8 x4), (z8 x5), (z8 x6), (z8 x7), (z8 x8), (z8 x9), (z8 x10), (z8 x11), (z8 x12), (z8 x13), (z8 x14), (z8 x15), (z8 x16), (z8 x17)]), (31, (ze x1))] 39 [] 0 | .l35 x0 x2 x3 x4 x5 x6 x7 x8 x9 x10 x11 x12 x13 x14 x15 x16 x17 x1 => stt [(7, (ze x0)), (30, .agg [(z8 x2), (z8 x3), (z8 x4), (z8 x5), (z8 x6), (z8 x7), (z8 x8), (z8 x9), (z8 x10), (z8 x11), (z8 x12), (z8 x13), (z8 x14), (z8 x15), (z8 x16), (z8 x17)]), (31, (ze x1))] 39 [] 0
noncomputable def zdR {R : Type} (ret : R94 -> R) (x : Partition) (j : L94 -> Option R) : L94 -> Option R | .l0 x0 x1 x2 x3 x4 x5 x6 x7 x8 x9 x10 x11 x12 x13 x14 x15 x16 =>let y1 := zm x.regions x0.toNat;  cond (decide (x0 < x.regions.length)) (cond (zU x0 x.regions.length) ( j (.l4 x0 (y1.pages) 0 x1 x2 x3 x4 x5 x6 x7 x8 x9 x10 x11 x12 x13 x14 x15 x16 (y1.page) (y1.pages) (y1.frame) (y1.rights))) none) (j (.l8 0 x1 x2 x3 x4 x5 x6 x7 x8 x9 x10 x11 x12 x13 x14 x15 x16 0)) | .l4 x17 x18 x0 x1 x2 x3 x4 x5 x6 x7 x8 x9 x10 x11 x12 x13 x14 x15 x16 x19 x20 x21 x22 =>let y2 := bop .quo .i64 (i64.wrap (x19 + x0)) 16; let y1 := (List.set ([x1, x2, x3, x4, x5, x6, x7, x8, x9, x10, x11, x12, x13, x14, x15, x16] : List Bool) (y2.toNat) true);  cond (decide (x0 < x18)) (cond (zU y2 16) ( j (.l4 x17 x18 (i64.wrap (x0 + 1)) (zba y1 0) (zba y1 1) (zba y1 2) (zba y1 3) (zba y1 4) (zba y1 5) (zba y1 6) (zba y1 7) (zba y1 8) (zba y1 9) (zba y1 10) (zba y1 11) (zba y1 12) (zba y1 13) (zba y1 14) (zba y1 15) x19 x20 x21 x22)) none) (j (.l0 (i64.wrap (x17 + 1)) x1 x2 x3 x4 x5 x6 x7 x8 x9 x10 x11 x12 x13 x14 x15 x16)) | .l8 x0 x2 x3 x4 x5 x6 x7 x8 x9 x10 x11 x12 x13 x14 x15 x16 x17 x1 => cond (decide (x1 < 16)) (cond (zU x1 16) ( cond (zba ([x2, x3, x4, x5, x6, x7, x8, x9, x10, x11, x12, x13, x14, x15, x16, x17] : List Bool) x1.toNat) (j (.l35 (i64.wrap (x0 + 1)) x2 x3 x4 x5 x6 x7 x8 x9 x10 x11 x12 x13 x14 x15 x16 x17 x1)) (j (.l35 x0 x2 x3 x4 x5 x6 x7 x8 x9 x10 x11 x12 x13 x14 x15 x16 x17 x1))) none) (some (ret x0)) | .l35 x0 x2 x3 x4 x5 x6 x7 x8 x9 x10 x11 x12 x13 x14 x15 x16 x17 x1 => j (.l8 x0 x2 x3 x4 x5 x6 x7 x8 x9 x10 x11 x12 x13 x14 x15 x16 x17 (i64.wrap (x1 + 1)))
noncomputable def zts {R : Type} (ret : R94 -> R) (x : Partition) (j : L94 -> Option R) : Option R := j (.l0 0 false false false false false false false false false false false false false false false false)
theorem ct94 (x : Partition) (l : L94) : CT fun j => zdR id x j l := by cases l <;> (dsimp only [zdR]; repeat (first | exact ctJ _ | exact ctK _ | apply ctC))
def zkN (x : Partition) : L94 -> Option R94 := lfp (zdR id x)
theorem zdM (x : Partition) (l : L94) : zkN x l = zdR id x (zkN x) l := zI (ct94 x) l
def zBL (x : Partition) : Option R94 := zts id x (zkN x)
def zGo (x : Partition) : R94 := (zBL x).getD default
def zxi (x : Partition) : Bool := (zBL x).isSome
theorem zQE (x : Partition) (hc : zxi x = true) : Okay Pr GL 94 [.agg (Ty.enc .sPartition x)] [] (zGT (zGo x)) := zH (H := H94) (bod := zdR id x) (ent := zts id x) (bodA := zdR zGT x) (entA := zts zGT x) zy zy Tryz.func94 rfl (by kernel_rfl) zGT zPQ (st94 x) (fun J l => by cases l <;> kernel_rfl) (fun J => by kernel_rfl) (fun s l => by cases l <;> simp only [zdR, zb, zt, zu, id]) (fun s => by simp only [zts, zb, zt, zu, id]) (ct94 x) (by dsimp only [zts]; repeat (first | exact ctJ _ | exact ctK _ | apply ctC)) hc
abbrev zyA := (List Int) × Bool
def zxU (r : zyA) : zY := ⟨.tup [.own 0, (z8 r.2)], [.arr 44 (.i .u32) r.1]⟩
inductive zsS where | l0 (x0 : Int)
def zKQ : zsS -> Nat | .l0 _ => 0
def H218 : z9 := htt [] [(0, ⟨fgt [6, 7, 30, 31, 32] 45 0, []⟩)] [(.slot 0, .own 44 (.i .u32))]
noncomputable def zRo (l_0 : (List Int)) (head : Int) : zsS -> St | .l0 x0 => stt [(6, (ze (i64.wrap (zN l_0 ((i64.wrap (head - 1)).toNat))))), (7, .sl (.i .u32) ((l_0.take (l_0.length : Int).toNat).drop head.toNat)), (30, .sl (.i .u32) ((((l_0.take (l_0.length : Int).toNat).drop head.toNat).take (((l_0.take (l_0.length : Int).toNat).drop head.toNat).length : Int).toNat).drop (i64.wrap (zN l_0 ((i64.wrap (head - 1)).toNat))).toNat)), (31, (ze (((((l_0.take (l_0.length : Int).toNat).drop head.toNat).take (((l_0.take (l_0.length : Int).toNat).drop head.toNat).length : Int).toNat).drop (i64.wrap (zN l_0 ((i64.wrap (head - 1)).toNat))).toNat).length))), (32, (ze x0))] 45 [] 0
noncomputable def zdA {R : Type} (ret : zyA -> R) (l_0 : (List Int)) (head : Int) (j : zsS -> Option R) : zsS -> Option R | .l0 x0 =>let y1 := i64.wrap (zN l_0 ((i64.wrap (head - 1)).toNat)); let y2 := ((l_0.take (l_0.length : Int).toNat).drop head.toNat); let y3 := ((y2.take (y2.length : Int).toNat).drop y1.toNat); let y4 := (List.replicate y1.toNat (0 : Int));  cond (decide (x0 < y3.length)) (cond (zU x0 y3.length) ( cond (!((zN y3 x0.toNat : Int) == 0)) (some (ret ([], false))) (j (.l0 (i64.wrap (x0 + 1))))) none) (cond (decide ((y1 : Int) = y1) && decide (0 <= y1) && leB (y1.toNat * 4) 140737488355328) ( some (ret ((zbP y4 0 (List.take (y4.length) (y2 : List Int))), true))) none)
noncomputable def zhb {R : Type} (ret : zyA -> R) (l_0 : (List Int)) (head : Int) (j : zsS -> Option R) : Option R := cond (zU (i64.wrap (head - 1)) l_0.length) ( cond (inS head l_0.length l_0.length) ( cond (decide (((i64.wrap (zN l_0 ((i64.wrap (head - 1)).toNat))) : Int) < 1)) (some (ret ([], false))) (cond (decide (((i64.wrap (zN l_0 ((i64.wrap (head - 1)).toNat))) : Int) > ((l_0.take (l_0.length : Int).toNat).drop head.toNat).length)) (some (ret ([], false))) (cond (inS (i64.wrap (zN l_0 ((i64.wrap (head - 1)).toNat))) (((l_0.take (l_0.length : Int).toNat).drop head.toNat).length) ((l_0.take (l_0.length : Int).toNat).drop head.toNat).length) (j (.l0 0)) none))) none) none
theorem zH1 (l_0 : (List Int)) (head : Int) (l : zsS) : CT fun j => zdA id l_0 head j l := by cases l <;> (dsimp only [zdA]; repeat (first | exact ctJ _ | exact ctK _ | apply ctC))
def znd (l_0 : (List Int)) (head : Int) : zsS -> Option zyA := lfp (zdA id l_0 head)
theorem zgL (l_0 : (List Int)) (head : Int) (l : zsS) : znd l_0 head l = zdA id l_0 head (znd l_0 head) l := zI (zH1 l_0 head) l
def zjZ (l_0 : (List Int)) (head : Int) : Option zyA := zhb id l_0 head (znd l_0 head)
def zii (l_0 : (List Int)) (head : Int) : zyA := (zjZ l_0 head).getD default
def zj6 (l_0 : (List Int)) (head : Int) : Bool := (zjZ l_0 head).isSome
theorem zL3 (l_0 : (List Int)) (head : Int) (hc : zj6 l_0 head = true) : Okay Pr GL 218 [.sl (.i .u32) l_0, (ze head)] [] (zxU (zii l_0 head)) := zH (H := H218) (bod := zdA id l_0 head) (ent := zhb id l_0 head) (bodA := zdA zxU l_0 head) (entA := zhb zxU l_0 head) zy zy Tryz.func218 rfl (by kernel_rfl) zxU zKQ (zRo l_0 head) (fun J l => by cases l <;> kernel_rfl) (fun J => by kernel_rfl) (fun s l => by cases l <;> simp only [zdA, zb, zt, zu, id]) (fun s => by simp only [zhb, zb, zt, zu, id]) (zH1 l_0 head) (by dsimp only [zhb]; repeat (first | exact ctJ _ | exact ctK _ | apply ctC)) hc
abbrev zC3 := Int
def zB3 (r : zC3) : zY := ⟨(ze r), []⟩
def zar : z9 := ⟨fun _ => false, fun _ => ⟨[], []⟩, [], G0, zfX⟩
noncomputable def ziT {R : Type} (ret : zC3 -> R) (h_0 : Channel) : Option R := cond (decide ((h_0.words : Int) < 1)) (some (ret 0)) (cond (decide ((h_0.words : Int) > 16)) (some (ret 0)) (cond ((h_0.kind : Int) == 1) (some (ret h_0.words)) (cond ((h_0.kind : Int) == 2) (cond (decide ((h_0.depth : Int) >= 1)) (cond (decide ((h_0.depth : Int) <= 8)) (some (ret (i64.wrap (h_0.depth * (i64.wrap (1 + h_0.words)))))) (some (ret 0))) (some (ret 0))) (some (ret 0)))))
def zjO (h_0 : Channel) : Option zC3 := ziT id h_0
def zkH (h_0 : Channel) : zC3 := (zjO h_0).getD default
theorem zFY (h_0 : Channel) : zjO h_0 = some (zkH h_0) := zE (show (zjO h_0).isSome = true by simp only [zjO, ziT, zG, Option.isSome_some, zT])
theorem zKY (h_0 : Channel) : Okay Pr GL 107 [.agg (Ty.enc .sChannel h_0)] [] (zB3 (zkH h_0)) := zw (H := zar) (ent := ziT id h_0) (entA := ziT zB3 h_0) zy zy Tryz.func107 rfl (by kernel_rfl) zB3 (fun J => by kernel_rfl) (by simp only [ziT, zb, zt, zu, id]) (show (zjO h_0).isSome = true by rw [zFY]; rfl)
abbrev R40 := Int
def zGD (r : R40) : zY := ⟨(ze r), []⟩
inductive L40 where | l0 (x0 : Int)
def zPA : L40 -> Nat | .l0 _ => 0
def H40 : z9 := htt [] [(0, ⟨fgt [1, 2, 19, 20, 21] 38 0, []⟩)] []
noncomputable def st40 (d : (Option DuctDucts)) (p : Int) (port : Int) (channel : Int) : L40 -> St | .l0 x0 => stt [(1, (ze p)), (2, (ze port)), (19, .sl .sDestPlace ((zx ((d.getD default).lay.channels) channel.toNat).dests)), (20, (ze (((zx ((d.getD default).lay.channels) channel.toNat).dests).length))), (21, (ze x0))] 38 [] 0
noncomputable def zkd {R : Type} (ret : R40 -> R) (d : (Option DuctDucts)) (p : Int) (port : Int) (channel : Int) (j : L40 -> Option R) : L40 -> Option R | .l0 x0 =>let y1 := (zx ((d.getD default).lay.channels) channel.toNat).dests; let y2 := zb3 y1 x0.toNat; let y3 := i64.wrap (x0 + 1);  cond (decide (x0 < y1.length)) (cond (zU x0 y1.length) ( cond ((y2.partition : Int) == p) (cond ((y2.port : Int) == port) (some (ret (y2.at_))) (j (.l0 y3))) (j (.l0 y3))) none) (some (ret (-1)))
noncomputable def zou {R : Type} (ret : R40 -> R) (d : (Option DuctDucts)) (p : Int) (port : Int) (channel : Int) (j : L40 -> Option R) : Option R := cond d.isSome (cond (zU channel ((d.getD default).lay.channels).length) (j (.l0 0)) none) none
theorem ct40 (d : (Option DuctDucts)) (p : Int) (port : Int) (channel : Int) (l : L40) : CT fun j => zkd id d p port channel j l := by cases l <;> (dsimp only [zkd]; repeat (first | exact ctJ _ | exact ctK _ | apply ctC))
def zng (d : (Option DuctDucts)) (p : Int) (port : Int) (channel : Int) : L40 -> Option R40 := lfp (zkd id d p port channel)
theorem zBC (d : (Option DuctDucts)) (p : Int) (port : Int) (channel : Int) (l : L40) : zng d p port channel l = zkd id d p port channel (zng d p port channel) l := zI (ct40 d p port channel) l
def zwP (d : (Option DuctDucts)) (p : Int) (port : Int) (channel : Int) : Option R40 := zou id d p port channel (zng d p port channel)
def zbO (d : (Option DuctDucts)) (p : Int) (port : Int) (channel : Int) : R40 := (zwP d p port channel).getD default
def zkU (d : (Option DuctDucts)) (p : Int) (port : Int) (channel : Int) : Bool := (zwP d p port channel).isSome
theorem zQg (d : (Option DuctDucts)) (p : Int) (port : Int) (channel : Int) (hc : zkU d p port channel = true) : Okay Pr GL 40 [.op .sDuctDucts d, (ze p), (ze port), (ze channel)] [] (zGD (zbO d p port channel)) := zH (H := H40) (bod := zkd id d p port channel) (ent := zou id d p port channel) (bodA := zkd zGD d p port channel) (entA := zou zGD d p port channel) zy zy Tryz.func40 rfl (by kernel_rfl) zGD zPA (st40 d p port channel) (fun J l => by cases l <;> kernel_rfl) (fun J => by kernel_rfl) (fun s l => by cases l <;> simp only [zkd, zb, zt, zu, id]) (fun s => by simp only [zou, zb, zt, zu, id]) (ct40 d p port channel) (by dsimp only [zou]; repeat (first | exact ctJ _ | exact ctK _ | apply ctC)) hc
abbrev R23 := Bool
def zGy (r : R23) : zY := ⟨(z8 r), []⟩
inductive L23 where | l0 (x0 : Int)
def zPv : L23 -> Nat | .l0 _ => 0
def H23 : z9 := htt [] [(0, ⟨fgt [0, 1, 5] 26 0, []⟩)] []
noncomputable def st23 (a : (List Int)) (b : (List Int)) : L23 -> St | .l0 x0 => stt [(0, .sl (.i .u32) a), (1, .sl (.i .u32) b), (5, (ze x0))] 26 [] 0
noncomputable def zhG {R : Type} (ret : R23 -> R) (a : (List Int)) (b : (List Int)) (j : L23 -> Option R) : L23 -> Option R | .l0 x0 => cond (decide (x0 < a.length)) (cond (zU x0 a.length) ( cond (zU x0 b.length) ( cond (!((zN a x0.toNat : Int) == zN b x0.toNat)) (some (ret false)) (j (.l0 (i64.wrap (x0 + 1))))) none) none) (some (ret true))
noncomputable def zop {R : Type} (ret : R23 -> R) (a : (List Int)) (b : (List Int)) (j : L23 -> Option R) : Option R := cond (!((a.length : Int) == b.length)) (some (ret false)) (j (.l0 0))
theorem ct23 (a : (List Int)) (b : (List Int)) (l : L23) : CT fun j => zhG id a b j l := by cases l <;> (dsimp only [zhG]; repeat (first | exact ctJ _ | exact ctK _ | apply ctC))
def zue (a : (List Int)) (b : (List Int)) : L23 -> Option R23 := lfp (zhG id a b)
theorem zuf (a : (List Int)) (b : (List Int)) (l : L23) : zue a b l = zhG id a b (zue a b) l := zI (ct23 a b) l
def zwH (a : (List Int)) (b : (List Int)) : Option R23 := zop id a b (zue a b)
def zGi (a : (List Int)) (b : (List Int)) : R23 := (zwH a b).getD default
def zw8 (a : (List Int)) (b : (List Int)) : Bool := (zwH a b).isSome
theorem zP1 (a : (List Int)) (b : (List Int)) (hc : zw8 a b = true) : Okay Pr GL 23 [.sl (.i .u32) a, .sl (.i .u32) b] [] (zGy (zGi a b)) := zH (H := H23) (bod := zhG id a b) (ent := zop id a b) (bodA := zhG zGy a b) (entA := zop zGy a b) zy zy Tryz.func23 rfl (by kernel_rfl) zGy zPv (st23 a b) (fun J l => by cases l <;> kernel_rfl) (fun J => by kernel_rfl) (fun s l => by cases l <;> simp only [zhG, zb, zt, zu, id]) (fun s => by simp only [zop, zb, zt, zu, id]) (ct23 a b) (by dsimp only [zop]; repeat (first | exact ctJ _ | exact ctK _ | apply ctC)) hc
abbrev zDK := Int
def zCK (r : zDK) : zY := ⟨(ze r), []⟩
noncomputable def zji {R : Type} (ret : zDK -> R) (m : (Option MemMemory)) (words : Int) : Option R := cond m.isNone (some (ret 3)) (cond (decide ((words : Int) < 1)) (some (ret 1)) (cond (decide ((words : Int) > 16)) (some (ret 1)) (some (ret 0))))
def zjW (m : (Option MemMemory)) (words : Int) : Option zDK := zji id m words
def zev (m : (Option MemMemory)) (words : Int) : zDK := (zjW m words).getD default
theorem zGg (m : (Option MemMemory)) (words : Int) : zjW m words = some (zev m words) := zE (show (zjW m words).isSome = true by simp only [zjW, zji, zG, Option.isSome_some, zT])
theorem zLU (m : (Option MemMemory)) (words : Int) : Okay Pr GL 209 [.op .sMemMemory m, (ze words)] [] (zCK (zev m words)) := zw (H := zar) (ent := zji id m words) (entA := zji zCK m words) zy zy Tryz.func209 rfl (by kernel_rfl) zCK (fun J => by kernel_rfl) (by simp only [zji, zb, zt, zu, id]) (show (zjW m words).isSome = true by rw [zGg]; rfl)
abbrev zC5 := AdmitFound
def zB5 (r : zC5) : zY := ⟨.agg [(ze r.e), (ze r.where_.first), (ze r.where_.second)], []⟩
noncomputable def zlD {R : Type} (ret : zC5 -> R) (holds : Bool) (e : Int) (w : Where) : Option R := cond holds (some (ret fine)) (some (ret (⟨e, (⟨w.first, w.second⟩ : Where)⟩ : AdmitFound)))
def znn (holds : Bool) (e : Int) (w : Where) : Option zC5 := zlD id holds e w
def zp (holds : Bool) (e : Int) (w : Where) : zC5 := (znn holds e w).getD default
theorem zF0 (holds : Bool) (e : Int) (w : Where) : znn holds e w = some (zp holds e w) := zE (show (znn holds e w).isSome = true by simp only [znn, zlD, zG, Option.isSome_some, zT])
theorem zKZ (holds : Bool) (e : Int) (w : Where) : Okay Pr GL 125 [(z8 holds), (ze e), .agg [(ze w.first), (ze w.second)]] [] (zB5 (zp holds e w)) := zw (H := zar) (ent := zlD id holds e w) (entA := zlD zB5 holds e w) zy zy Tryz.func125 rfl (by kernel_rfl) zB5 (fun J => by kernel_rfl) (by simp only [zlD, zb, zt, zu, id]) (show (znn holds e w).isSome = true by rw [zF0]; rfl)
abbrev zDG := Int
def zCG (r : zDG) : zY := ⟨(avU r), []⟩
noncomputable def zmg {R : Type} (ret : zDG -> R) (b : Bool) : Option R := cond b (some (ret 1)) (some (ret 0))
def znA (b : Bool) : Option zDG := zmg id b
def zpy (b : Bool) : zDG := (znA b).getD default
theorem zGf (b : Bool) : znA b = some (zpy b) := zE (show (znA b).isSome = true by simp only [znA, zmg, zG, Option.isSome_some, zT])
theorem zLP (b : Bool) : Okay Pr GL 204 [(z8 b)] [] (zCG (zpy b)) := zw (H := zar) (ent := zmg id b) (entA := zmg zCG b) zy zy Tryz.func204 rfl (by kernel_rfl) zCG (fun J => by kernel_rfl) (by simp only [zmg, zb, zt, zu, id]) (show (znA b).isSome = true by rw [zGf]; rfl)
abbrev zDl := Int
def zCl (r : zDl) : zY := ⟨(ze r), []⟩
noncomputable def zlU {R : Type} (ret : zDl -> R) (f : QueueForm) : Option R := some (ret (i64.wrap (1 + f.words)))
def znw (f : QueueForm) : Option zDl := zlU id f
def zig (f : QueueForm) : zDl := (znw f).getD default
theorem zGa (f : QueueForm) : znw f = some (zig f) := zE (show (znw f).isSome = true by simp only [znw, zlU, zG, Option.isSome_some, zT])
theorem zLi (f : QueueForm) : Okay Pr GL 152 [.agg [(ze f.words), (ze f.depth)]] [] (zCl (zig f)) := zw (H := zar) (ent := zlU id f) (entA := zlU zCl f) zy zy Tryz.func152 rfl (by kernel_rfl) zCl (fun J => by kernel_rfl) (by simp only [zlU, zb, zt, zu, id]) (show (znw f).isSome = true by rw [zGa]; rfl)
abbrev R21 := Bool
def zMH (r : R21) : zY := ⟨(z8 r), []⟩
noncomputable def zmj {R : Type} (ret : R21 -> R) (c : Config) (o : Bulkheadlaw21Op) (told : Int) (own : Owner) : Option R := cond ((o.kind : Int) == 3) (cond (decide ((o.p : Int) < 0)) (some (ret false)) (cond (decide ((o.p : Int) >= c.partitions.length)) (some (ret false)) (cond (decide ((o.q : Int) < 0)) (some (ret false)) (cond (zU o.p c.partitions.length) ( cond (decide ((o.q : Int) >= ((za c.partitions o.p.toNat).ports).length)) (some (ret false)) (cond ((told : Int) == 0) (cond ((own.kind : Int) == 7) (cond (zU o.p c.partitions.length) ( cond (zU o.q ((za c.partitions o.p.toNat).ports).length) (some (ret ((own.index : Int) == (zaI ((za c.partitions o.p.toNat).ports) o.q.toNat).channel))) none) none) (some (ret false))) (some (ret false)))) none)))) (cond ((o.kind : Int) == 5) (cond ((own.kind : Int) == 8) (cond ((own.index : Int) == o.p) (some (ret ((own.port : Int) == o.q))) (some (ret false))) (some (ret false))) (cond ((o.kind : Int) == 7) (cond ((own.kind : Int) == 7) (some (ret true)) (some (ret ((own.kind : Int) == 8)))) (some (ret false))))
def ziv (c : Config) (o : Bulkheadlaw21Op) (told : Int) (own : Owner) : Option R21 := zmj id c o told own
def zGh (c : Config) (o : Bulkheadlaw21Op) (told : Int) (own : Owner) : R21 := (ziv c o told own).getD default
def zw7 (c : Config) (o : Bulkheadlaw21Op) (told : Int) (own : Owner) : Bool := (ziv c o told own).isSome
theorem zP0 (c : Config) (o : Bulkheadlaw21Op) (told : Int) (own : Owner) (hc : zw7 c o told own = true) : Okay Pr GL 21 [.agg (Ty.enc .sConfig c), .agg (Ty.enc .sBulkheadlaw21Op o), (ze told), .agg (Ty.enc .sOwner own)] [] (zMH (zGh c o told own)) := zw (H := zar) (ent := zmj id c o told own) (entA := zmj zMH c o told own) zy zy Tryz.func21 rfl (by kernel_rfl) zMH (fun J => by kernel_rfl) (by simp only [zmj, zb, zt, zu, id]) hc
abbrev zyg := Int × Int
def zxA (r : zyg) : zY := ⟨.tup [(ze r.1), (ze r.2)], []⟩
inductive zsy where | l0 (x1 : Int) (x2 : Int) (x0 : Int) | l4 (x1 : Int) (x2 : Int) (x0 : Int) (x3 : Int) | l25 (x0 : Int) (x4 : Int) (x1 : Int) (x5 : Int) (x2 : Int) (x3 : Bool) | l17 (x0 : Int) (x2 : Int) (x1 : Int) (x3 : Int)
def zKw : zsy -> Nat | .l0 _ _ _ => 0 | .l4 _ _ _ _ => 4 | .l25 _ _ _ _ _ _ => 25 | .l17 _ _ _ _ => 17
def H145 : z9 := htt [8, 12] [(0, ⟨fgt [1, 2, 6, 7, 8, 43, 44, 53, 54, 55] 61 0, []⟩), (4, ⟨fgt [1, 2, 6, 7, 8, 9, 43, 44, 53, 54, 55] 61 0, []⟩), (17, ⟨fgt [1, 2, 6, 7, 8, 9, 43, 44] 61 0, []⟩), (25, ⟨fgt [1, 2, 6, 7, 8, 9, 10, 53, 54, 55] 61 0, []⟩)] []
noncomputable def zQ4 (c : Config) (h_1 : Int) : zsy -> St | .l0 x1 x2 x0 => stt [(1, (ze h_1)), (2, .ref 0 0), (6, (ze x1)), (7, (ze x2)), (8, (ze x0))] 61 [.cells 26 (Ty.enc .sConfig c)] 0 | .l4 x1 x2 x0 x3 => stt [(1, (ze h_1)), (2, .ref 0 0), (6, (ze x1)), (7, (ze x2)), (8, (ze x0)), (9, (ze x3))] 61 [.cells 26 (Ty.enc .sConfig c)] 0 | .l25 x0 x4 x1 x5 x2 x3 => stt [(1, (ze h_1)), (2, .ref 0 0), (6, (ze x0)), (7, (ze x4)), (8, (ze x1)), (9, (ze x5)), (10, .ref 1 0)] 61 [.cells 26 (Ty.enc .sConfig c), .cells 57 [(ze x2), (z8 x3)]] 0 | .l17 x0 x2 x1 x3 => stt [(1, (ze h_1)), (2, .ref 0 0), (6, (ze x0)), (7, (ze x2)), (8, (ze x1)), (9, (ze x3))] 61 [.cells 26 (Ty.enc .sConfig c)] 0
noncomputable def zco {R : Type} (ret : zyg -> R) (c : Config) (h_1 : Int) (j : zsy -> Option R) : zsy -> Option R | .l0 x1 x2 x0 => cond (decide (x0 < c.partitions.length)) (j (.l4 x1 x2 x0 0)) (some (ret (x1, x2))) | .l4 x1 x2 x0 x3 =>let y2 := (za c.partitions x0.toNat).ports; let y1 := zaI y2 x3.toNat; let y3 := y1.source; let y4 := zU x0 c.partitions.length; let y5 := y1.channel;  cond y4 ( cond (decide (x3 < y2.length)) (cond y4 ( cond (zU x3 y2.length) ( cond ((y1.channel : Int) == h_1) (cond y3 (j (.l25 (i64.wrap (x1 + 1)) x2 x0 x3 y5 y3)) (j (.l25 x1 x2 x0 x3 y5 y3))) (j (.l25 x1 x2 x0 x3 y5 y3))) none) none) (j (.l0 x1 x2 (i64.wrap (x0 + 1))))) none | .l25 x0 x4 x1 x5 x2 x3 => cond (x2 == h_1) (cond (!x3) (j (.l17 x0 (i64.wrap (x4 + 1)) x1 x5)) (j (.l17 x0 x4 x1 x5))) (j (.l17 x0 x4 x1 x5)) | .l17 x0 x2 x1 x3 => j (.l4 x0 x2 x1 (i64.wrap (x3 + 1)))
noncomputable def zlO {R : Type} (ret : zyg -> R) (c : Config) (h_1 : Int) (j : zsy -> Option R) : Option R := j (.l0 0 0 0)
theorem zHH (c : Config) (h_1 : Int) (l : zsy) : CT fun j => zco id c h_1 j l := by cases l <;> (dsimp only [zco]; repeat (first | exact ctJ _ | exact ctK _ | apply ctC))
def zb0 (c : Config) (h_1 : Int) : zsy -> Option zyg := lfp (zco id c h_1)
theorem zdo (c : Config) (h_1 : Int) (l : zsy) : zb0 c h_1 l = zco id c h_1 (zb0 c h_1) l := zI (zHH c h_1) l
def zvA (c : Config) (h_1 : Int) : Option zyg := zlO id c h_1 (zb0 c h_1)
def zaG (c : Config) (h_1 : Int) : zyg := (zvA c h_1).getD default
def zdN (c : Config) (h_1 : Int) : Bool := (zvA c h_1).isSome
theorem zLb (c : Config) (h_1 : Int) (hc : zdN c h_1 = true) : Okay Pr GL 145 [.agg (Ty.enc .sConfig c), (ze h_1)] [] (zxA (zaG c h_1)) := zH (H := H145) (bod := zco id c h_1) (ent := zlO id c h_1) (bodA := zco zxA c h_1) (entA := zlO zxA c h_1) zy zy Tryz.func145 rfl (by kernel_rfl) zxA zKw (zQ4 c h_1) (fun J l => by cases l <;> kernel_rfl) (fun J => by kernel_rfl) (fun s l => by cases l <;> simp only [zco, zb, zt, zu, id]) (fun s => by simp only [zlO, zb, zt, zu, id]) (zHH c h_1) (by dsimp only [zlO]; repeat (first | exact ctJ _ | exact ctK _ | apply ctC)) hc
abbrev zgo := DuctLast
def ziA (r : zgo) : zY := ⟨.ifc 167 (.agg [(ze r.ends.stage), (ze r.ends.words), .own 0]), [.arr 3 (.i .i64) r.ends.ports]⟩
inductive zdP where | l0 (x0 : Int) (x1 : List Int)
def zyX : zdP -> Nat | .l0 _ _ => 0
def zCZ : z9 := htt [] [(0, ⟨fgt [5, 6, 37, 38, 39] 62 0, [(.box 6 2, .own 3 (.i .i64))]⟩)] [(.slot 0, .ift 167)]
noncomputable def zBS (d : (Option DuctDucts)) (n_1 : Int) : zdP -> St | .l0 x0 x1 => stt [(5, .ref 0 0), (6, .ref 1 0), (37, .sl .sDestPlace ((zx ((d.getD default).lay.channels) n_1.toNat).dests)), (38, (ze (((zx ((d.getD default).lay.channels) n_1.toNat).dests).length))), (39, (ze x0))] 62 [.cells 108 (Ty.enc .sChannel (zo ((d.getD default).c.channels) n_1.toNat)), .cells 121 [(ze ((zx ((d.getD default).lay.channels) n_1.toNat).stage)), (ze ((zo ((d.getD default).c.channels) n_1.toNat).words)), .own 2], .arr 3 (.i .i64) x1] 0
noncomputable def zbD {R : Type} (ret : zgo -> R) (d : (Option DuctDucts)) (n_1 : Int) (j : zdP -> Option R) : zdP -> Option R | .l0 x0 x1 =>let y1 := zx ((d.getD default).lay.channels) n_1.toNat; let y2 := zo ((d.getD default).c.channels) n_1.toNat; let y3 := zb3 (y1.dests) x0.toNat;  cond (decide (x0 < (y1.dests).length)) (cond (zU x0 (y1.dests).length) ( cond (leB (((x1 : List Int).length + ([y3.at_] : List Int).length) * 8) 140737488355328) ( j (.l0 (i64.wrap (x0 + 1)) ((x1 : List Int) ++ [y3.at_]))) none) none) (cond ((y2.kind : Int) == 2) (none) (some (ret (⟨(⟨y1.stage, y2.words, x1⟩ : DuctEnds)⟩ : DuctLast))))
noncomputable def zdl {R : Type} (ret : zgo -> R) (d : (Option DuctDucts)) (n_1 : Int) (j : zdP -> Option R) : Option R := cond d.isSome ( cond (zU n_1 ((d.getD default).c.channels).length) ( cond d.isSome ( cond (zU n_1 ((d.getD default).lay.channels).length) (cond d.isSome (cond (zU n_1 ((d.getD default).lay.channels).length) (j (.l0 0 [])) none) none) none) none) none) none
theorem zs6 (d : (Option DuctDucts)) (n_1 : Int) (l : zdP) : CT fun j => zbD id d n_1 j l := by cases l <;> (dsimp only [zbD]; repeat (first | exact ctJ _ | exact ctK _ | apply ctC))
def zey (d : (Option DuctDucts)) (n_1 : Int) : zdP -> Option zgo := lfp (zbD id d n_1)
theorem zij (d : (Option DuctDucts)) (n_1 : Int) (l : zdP) : zey d n_1 l = zbD id d n_1 (zey d n_1) l := zI (zs6 d n_1) l
def zgO (d : (Option DuctDucts)) (n_1 : Int) : Option zgo := zdl id d n_1 (zey d n_1)
def z6 (d : (Option DuctDucts)) (n_1 : Int) : zgo := (zgO d n_1).getD default
def zbH (d : (Option DuctDucts)) (n_1 : Int) : Bool := (zgO d n_1).isSome
theorem zy1 (d : (Option DuctDucts)) (n_1 : Int) (hc : zbH d n_1 = true) : Okay Pr GL 34 [.op .sDuctDucts d, (ze n_1)] [] (ziA (z6 d n_1)) := zH (H := zCZ) (bod := zbD id d n_1) (ent := zdl id d n_1) (bodA := zbD ziA d n_1) (entA := zdl ziA d n_1) zy zy Tryz.func34 rfl (by kernel_rfl) ziA zyX (zBS d n_1) (fun J l => by cases l <;> kernel_rfl) (fun J => by kernel_rfl) (fun s l => by cases l <;> simp only [zbD, zb, zt, zu, id]) (fun s => by simp only [zdl, zb, zt, zu, id]) (zs6 d n_1) (by dsimp only [zdl]; repeat (first | exact ctJ _ | exact ctK _ | apply ctC)) hc
abbrev zyq := Bool
def zxK (r : zyq) : zY := ⟨(z8 r), []⟩
inductive zsI where | l0 (x0 : Int)
def zKG : zsI -> Nat | .l0 _ => 0
def H166 : z9 := htt [] [(0, ⟨fgt [0, 3] 49 0, []⟩)] []
noncomputable def zRe (s_0 : ByteArray) : zsI -> St | .l0 x0 => stt [(0, .v (.string s_0)), (3, (ze x0))] 49 [] 0
noncomputable def zeU {R : Type} (ret : zyq -> R) (s_0 : ByteArray) (j : zsI -> Option R) : zsI -> Option R | .l0 x0 =>let y1 := ((zbW s_0 x0.toNat) : Int); let y2 := i64.wrap (x0 + 1); let y3 := !(y1 == 45);  cond (decide (x0 < s_0.size)) (cond (zU x0 s_0.size) ( cond (decide (y1 < 97)) (cond (decide (y1 < 48)) (cond y3 (some (ret false)) (j (.l0 y2))) (cond (decide (y1 > 57)) (cond y3 (some (ret false)) (j (.l0 y2))) (j (.l0 y2)))) (cond (decide (y1 > 122)) (cond (decide (y1 < 48)) (cond y3 (some (ret false)) (j (.l0 y2))) (cond (decide (y1 > 57)) (cond y3 (some (ret false)) (j (.l0 y2))) (j (.l0 y2)))) (j (.l0 y2)))) none) (some (ret true))
noncomputable def zi8 {R : Type} (ret : zyq -> R) (s_0 : ByteArray) (j : zsI -> Option R) : Option R := cond (s_0.toList == (ByteArray.mk #[]).toList) (some (ret false)) (cond (decide ((s_0.size : Int) > 16)) (some (ret false)) (cond (zU 0 s_0.size) ( cond (decide (((zbW s_0 0) : Int) < 97)) (some (ret false)) (cond (zU 0 s_0.size) (cond (decide (((zbW s_0 0) : Int) > 122)) (some (ret false)) (j (.l0 0))) none)) none))
theorem zHR (s_0 : ByteArray) (l : zsI) : CT fun j => zeU id s_0 j l := by cases l <;> (dsimp only [zeU]; repeat (first | exact ctJ _ | exact ctK _ | apply ctC))
def znb (s_0 : ByteArray) : zsI -> Option zyq := lfp (zeU id s_0)
theorem zpK (s_0 : ByteArray) (l : zsI) : znb s_0 l = zeU id s_0 (znb s_0) l := zI (zHR s_0) l
def zrf (s_0 : ByteArray) : Option zyq := zi8 id s_0 (znb s_0)
def zt5 (s_0 : ByteArray) : zyq := (zrf s_0).getD default
def znF (s_0 : ByteArray) : Bool := (zrf s_0).isSome
theorem zLu (s_0 : ByteArray) (hc : znF s_0 = true) : Okay Pr GL 166 [.v (.string s_0)] [] (zxK (zt5 s_0)) := zH (H := H166) (bod := zeU id s_0) (ent := zi8 id s_0) (bodA := zeU zxK s_0) (entA := zi8 zxK s_0) zy zy Tryz.func166 rfl (by kernel_rfl) zxK zKG (zRe s_0) (fun J l => by cases l <;> kernel_rfl) (fun J => by kernel_rfl) (fun s l => by cases l <;> simp only [zeU, zb, zt, zu, id]) (fun s => by simp only [zi8, zb, zt, zu, id]) (zHR s_0) (by dsimp only [zi8]; repeat (first | exact ctJ _ | exact ctK _ | apply ctC)) hc
abbrev R38 := Port × Bool
def zMQ (r : R38) : zY := ⟨.tup [.agg [(ze r.1.channel), (z8 r.1.source)], (z8 r.2)], []⟩
noncomputable def zot {R : Type} (ret : R38 -> R) (d : (Option DuctDucts)) (p : Int) (port : Int) : Option R := cond d.isNone (some (ret ((⟨0, false⟩ : Port), false))) (cond (decide ((p : Int) < 0)) (some (ret ((⟨0, false⟩ : Port), false))) (cond d.isSome ( cond (decide ((p : Int) >= ((d.getD default).c.partitions).length)) (some (ret ((⟨0, false⟩ : Port), false))) (cond (decide ((port : Int) < 0)) (some (ret ((⟨0, false⟩ : Port), false))) (cond d.isSome ( cond (zU p ((d.getD default).c.partitions).length) ( cond (decide ((port : Int) >= ((za ((d.getD default).c.partitions) p.toNat).ports).length)) (some (ret ((⟨0, false⟩ : Port), false))) (cond d.isSome ( cond (zU p ((d.getD default).c.partitions).length) ( cond (zU port ((za ((d.getD default).c.partitions) p.toNat).ports).length) (some (ret ((zaI ((za ((d.getD default).c.partitions) p.toNat).ports) port.toNat), true))) none) none) none)) none) none))) none))
def znB (d : (Option DuctDucts)) (p : Int) (port : Int) : Option R38 := zot id d p port
def zK (d : (Option DuctDucts)) (p : Int) (port : Int) : R38 := (znB d p port).getD default
def zc6 (d : (Option DuctDucts)) (p : Int) (port : Int) : Bool := (znB d p port).isSome
theorem zQe (d : (Option DuctDucts)) (p : Int) (port : Int) (hc : zc6 d p port = true) : Okay Pr GL 38 [.op .sDuctDucts d, (ze p), (ze port)] [] (zMQ (zK d p port)) := zw (H := zar) (ent := zot id d p port) (entA := zot zMQ d p port) zy zy Tryz.func38 rfl (by kernel_rfl) zMQ (fun J => by kernel_rfl) (by simp only [zot, zb, zt, zu, id]) hc
abbrev R70 := Bool
def zGP (r : R70) : zY := ⟨(z8 r), []⟩
inductive L70 where | l0 (x0 : Int)
def zPM : L70 -> Nat | .l0 _ => 0
def H70 : z9 := htt [] [(0, ⟨fgt [1, 2, 10, 11] 40 0, []⟩)] []
noncomputable def st70 (p : Partition) (t : Int) : L70 -> St | .l0 x0 => stt [(1, (ze t)), (2, .ref 0 0), (10, (ze p.regions.length)), (11, (ze x0))] 40 [.cells 55 (Ty.enc .sPartition p)] 0
noncomputable def zhJ {R : Type} (ret : R70 -> R) (p : Partition) (t : Int) (j : L70 -> Option R) : L70 -> Option R | .l0 x0 =>let y1 := zm p.regions x0.toNat; let y2 := i64.wrap (x0 + 1); let y3 := zU x0 p.regions.length;  cond (decide (x0 < p.regions.length)) (cond y3 ( cond y3 ( cond (decide (((bop .quo .i64 (y1.page) 16) : Int) <= t)) (cond (decide ((t : Int) <= (bop .quo .i64 (i64.wrap ((i64.wrap (y1.page + y1.pages)) - 1)) 16))) (some (ret true)) (j (.l0 y2))) (j (.l0 y2))) none) none) (some (ret false))
noncomputable def ztn {R : Type} (ret : R70 -> R) (p : Partition) (t : Int) (j : L70 -> Option R) : Option R := j (.l0 0)
theorem ct70 (p : Partition) (t : Int) (l : L70) : CT fun j => zhJ id p t j l := by cases l <;> (dsimp only [zhJ]; repeat (first | exact ctJ _ | exact ctK _ | apply ctC))
def zul (p : Partition) (t : Int) : L70 -> Option R70 := lfp (zhJ id p t)
theorem zum (p : Partition) (t : Int) (l : L70) : zul p t l = zhJ id p t (zul p t) l := zI (ct70 p t) l
def zus (p : Partition) (t : Int) : Option R70 := ztn id p t (zul p t)
def zGm (p : Partition) (t : Int) : R70 := (zus p t).getD default
def zxf (p : Partition) (t : Int) : Bool := (zus p t).isSome
theorem zQw (p : Partition) (t : Int) (hc : zxf p t = true) : Okay Pr GL 70 [.agg (Ty.enc .sPartition p), (ze t)] [] (zGP (zGm p t)) := zH (H := H70) (bod := zhJ id p t) (ent := ztn id p t) (bodA := zhJ zGP p t) (entA := ztn zGP p t) zy zy Tryz.func70 rfl (by kernel_rfl) zGP zPM (st70 p t) (fun J l => by cases l <;> kernel_rfl) (fun J => by kernel_rfl) (fun s l => by cases l <;> simp only [zhJ, zb, zt, zu, id]) (fun s => by simp only [ztn, zb, zt, zu, id]) (ct70 p t) (by dsimp only [ztn]; repeat (first | exact ctJ _ | exact ctK _ | apply ctC)) hc
abbrev R68 := Int
def zGO (r : R68) : zY := ⟨(ze r), []⟩
inductive L68 where | l0 (x0 : Int) (x1 : Int) | l15 (x0 : Int) (x1 : Int)
def zPL : L68 -> Nat | .l0 _ _ => 0 | .l15 _ _ => 15
def H68 : z9 := htt [7] [(0, ⟨fgt [1, 2, 3, 7, 11, 12, 24, 25, 26, 27, 28, 29, 30, 31] 37 0, []⟩), (15, ⟨fgt [1, 2, 3, 7, 11, 12] 37 0, []⟩)] []
noncomputable def st68 (p : Partition) (channel : Int) (source : Bool) : L68 -> St | .l0 x0 x1 => stt [(1, (ze channel)), (2, (z8 source)), (3, .ref 0 0), (7, (ze x0)), (11, (ze p.ports.length)), (12, (ze x1))] 37 [.cells 55 (Ty.enc .sPartition p)] 0 | .l15 x0 x1 => stt [(1, (ze channel)), (2, (z8 source)), (3, .ref 0 0), (7, (ze x0)), (11, (ze p.ports.length)), (12, (ze x1))] 37 [.cells 55 (Ty.enc .sPartition p)] 0
noncomputable def zgV {R : Type} (ret : R68 -> R) (p : Partition) (channel : Int) (source : Bool) (j : L68 -> Option R) : L68 -> Option R | .l0 x0 x1 =>let y1 := zaI p.ports x1.toNat; let y2 := zU x1 p.ports.length;  cond (decide (x1 < p.ports.length)) (cond y2 ( cond ((y1.channel : Int) == channel) (cond y2 ( cond ((y1.source) == source) (j (.l15 (i64.wrap (x0 + 1)) x1)) (j (.l15 x0 x1))) none) (j (.l15 x0 x1))) none) (some (ret x0)) | .l15 x0 x1 => j (.l0 x0 (i64.wrap (x1 + 1)))
noncomputable def ztm {R : Type} (ret : R68 -> R) (p : Partition) (channel : Int) (source : Bool) (j : L68 -> Option R) : Option R := j (.l0 0 0)
theorem ct68 (p : Partition) (channel : Int) (source : Bool) (l : L68) : CT fun j => zgV id p channel source j l := by cases l <;> (dsimp only [zgV]; repeat (first | exact ctJ _ | exact ctK _ | apply ctC))
def zni (p : Partition) (channel : Int) (source : Bool) : L68 -> Option R68 := lfp (zgV id p channel source)
theorem znj (p : Partition) (channel : Int) (source : Bool) (l : L68) : zni p channel source l = zgV id p channel source (zni p channel source) l := zI (ct68 p channel source) l
def zBI (p : Partition) (channel : Int) (source : Bool) : Option R68 := ztm id p channel source (zni p channel source)
def zzh (p : Partition) (channel : Int) (source : Bool) : R68 := (zBI p channel source).getD default
def zp9 (p : Partition) (channel : Int) (source : Bool) : Bool := (zBI p channel source).isSome
theorem zQu (p : Partition) (channel : Int) (source : Bool) (hc : zp9 p channel source = true) : Okay Pr GL 68 [.agg (Ty.enc .sPartition p), (ze channel), (z8 source)] [] (zGO (zzh p channel source)) := zH (H := H68) (bod := zgV id p channel source) (ent := ztm id p channel source) (bodA := zgV zGO p channel source) (entA := ztm zGO p channel source) zy zy Tryz.func68 rfl (by kernel_rfl) zGO zPL (st68 p channel source) (fun J l => by cases l <;> kernel_rfl) (fun J => by kernel_rfl) (fun s l => by cases l <;> simp only [zgV, zb, zt, zu, id]) (fun s => by simp only [ztm, zb, zt, zu, id]) (ct68 p channel source) (by dsimp only [ztm]; repeat (first | exact ctJ _ | exact ctK _ | apply ctC)) hc
abbrev R30 := MemMemory × Int
def zMK (r : R30) : zY := ⟨.tup [.ref 0 0, (ze r.2)], [.cells 112 [.own 1], .arr 44 (.i .u32) r.1.words]⟩
def H30 : z9 := ⟨fun _ => false, fun _ => ⟨[], []⟩, [(.slot 0, .fnc)], G0, zfX⟩
noncomputable def ztf {R : Type} (ret : R30 -> R) (frames : Int) : Option R := cond (decide ((frames : Int) < 1)) (none) (cond (decide ((frames : Int) > 1024)) (none) (cond (decide (((i64.wrap (frames * 16)) : Int) = (i64.wrap (frames * 16))) && decide (0 <= (i64.wrap (frames * 16))) && leB ((i64.wrap (frames * 16)).toNat * 4) 140737488355328) ( some (ret ((⟨(List.replicate (List.replicate (i64.wrap (frames * 16)).toNat (0 : Int)).length (0 : Int))⟩ : MemMemory), 0))) none))
def zwL (frames : Int) : Option R30 := ztf id frames
def zew (frames : Int) : R30 := (zwL frames).getD default
def zgf (frames : Int) : Bool := (zwL frames).isSome
theorem zP7 (frames : Int) (hc : zgf frames = true) : Okay Pr GL 30 [(ze frames)] [] (zMK (zew frames)) := zw (H := H30) (ent := ztf id frames) (entA := ztf zMK frames) zy zy Tryz.func30 rfl (by kernel_rfl) zMK (fun J => by kernel_rfl) (by simp only [ztf, zb, zt, zu, id]) hc
abbrev zyz := Bool
def zxT (r : zyz) : zY := ⟨(z8 r), []⟩
inductive zsR where | l0 (x0 : Int)
def zKP : zsR -> Nat | .l0 _ => 0
def H217 : z9 := htt [] [(0, ⟨fgt [5, 6, 7] 14 0, []⟩)] []
noncomputable def zRn (l_0 : (List Int)) : zsR -> St | .l0 x0 => stt [(5, .sl (.i .u32) l_0), (6, (ze l_0.length)), (7, (ze x0))] 14 [] 0
noncomputable def zeY {R : Type} (ret : zyz -> R) (l_0 : (List Int)) (j : zsR -> Option R) : zsR -> Option R | .l0 x0 => cond (decide (x0 < l_0.length)) (cond (zU x0 l_0.length) (cond (!((zN l_0 x0.toNat : Int) == 0)) (some (ret false)) (j (.l0 (i64.wrap (x0 + 1))))) none) (some (ret true))
noncomputable def zmm {R : Type} (ret : zyz -> R) (l_0 : (List Int)) (j : zsR -> Option R) : Option R := j (.l0 0)
theorem zH0 (l_0 : (List Int)) (l : zsR) : CT fun j => zeY id l_0 j l := by cases l <;> (dsimp only [zeY]; repeat (first | exact ctJ _ | exact ctK _ | apply ctC))
def zqS (l_0 : (List Int)) : zsR -> Option zyz := lfp (zeY id l_0)
theorem zpO (l_0 : (List Int)) (l : zsR) : zqS l_0 l = zeY id l_0 (zqS l_0) l := zI (zH0 l_0) l
def zvE (l_0 : (List Int)) : Option zyz := zmm id l_0 (zqS l_0)
def zub (l_0 : (List Int)) : zyz := (zvE l_0).getD default
def znM (l_0 : (List Int)) : Bool := (zvE l_0).isSome
theorem zL2 (l_0 : (List Int)) (hc : znM l_0 = true) : Okay Pr GL 217 [.sl (.i .u32) l_0] [] (zxT (zub l_0)) := zH (H := H217) (bod := zeY id l_0) (ent := zmm id l_0) (bodA := zeY zxT l_0) (entA := zmm zxT l_0) zy zy Tryz.func217 rfl (by kernel_rfl) zxT zKP (zRn l_0) (fun J l => by cases l <;> kernel_rfl) (fun J => by kernel_rfl) (fun s l => by cases l <;> simp only [zeY, zb, zt, zu, id]) (fun s => by simp only [zmm, zb, zt, zu, id]) (zH0 l_0) (by dsimp only [zmm]; repeat (first | exact ctJ _ | exact ctK _ | apply ctC)) hc
abbrev zDo := Bool
def zCo (r : zDo) : zY := ⟨(z8 r), []⟩
noncomputable def zl1 {R : Type} (ret : zDo -> R) (a : Int) (many : Int) (b : Int) (others : Int) : Option R := cond (decide ((a : Int) < (i64.wrap (b + others)))) (some (ret (decide ((b : Int) < (i64.wrap (a + many)))))) (some (ret false))
def znz (a : Int) (many : Int) (b : Int) (others : Int) : Option zDo := zl1 id a many b others
def zpt (a : Int) (many : Int) (b : Int) (others : Int) : zDo := (znz a many b others).getD default
theorem zGd (a : Int) (many : Int) (b : Int) (others : Int) : znz a many b others = some (zpt a many b others) := zE (show (znz a many b others).isSome = true by simp only [znz, zl1, zG, Option.isSome_some, zT])
theorem zLs (a : Int) (many : Int) (b : Int) (others : Int) : Okay Pr GL 164 [(ze a), (ze many), (ze b), (ze others)] [] (zCo (zpt a many b others)) := zw (H := zar) (ent := zl1 id a many b others) (entA := zl1 zCo a many b others) zy zy Tryz.func164 rfl (by kernel_rfl) zCo (fun J => by kernel_rfl) (by simp only [zl1, zb, zt, zu, id]) (show (znz a many b others).isSome = true by rw [zGd]; rfl)
abbrev zDf := Int × Int
def zCf (r : zDf) : zY := ⟨(ze r.1), [.cells 3 [(ze r.2)]]⟩
noncomputable def zlM {R : Type} (ret : zDf -> R) (n : Int) (here : Int) : Option R := some (ret (here, (i64.wrap (here + n))))
def znt (n : Int) (here : Int) : Option zDf := zlM id n here
def zbl (n : Int) (here : Int) : zDf := (znt n here).getD default
theorem zF6 (n : Int) (here : Int) : znt n here = some (zbl n here) := zE (show (znt n here).isSome = true by simp only [znt, zlM, zG, Option.isSome_some, zT])
theorem zK6 (n : Int) (here : Int) : Okay Pr GL 140 [(ze n), .ref 0 0] [.cells 3 [(ze here)]] (zCf (zbl n here)) := zw (H := zar) (ent := zlM id n here) (entA := zlM zCf n here) zy zy Tryz.func140 rfl (by kernel_rfl) zCf (fun J => by kernel_rfl) (by simp only [zlM, zb, zt, zu, id]) (show (znt n here).isSome = true by rw [zF6]; rfl)
abbrev zDn := Where
def zCn (r : zDn) : zY := ⟨.agg [(ze r.first), (ze r.second)], []⟩
noncomputable def zlZ {R : Type} (ret : zDn -> R) (first : Int) (second : Int) : Option R := some (ret (⟨first, second⟩ : Where))
def zny (first : Int) (second : Int) : Option zDn := zlZ id first second
def zam (first : Int) (second : Int) : zDn := (zny first second).getD default
theorem zGc (first : Int) (second : Int) : zny first second = some (zam first second) := zE (show (zny first second).isSome = true by simp only [zny, zlZ, zG, Option.isSome_some, zT])
theorem zLp (first : Int) (second : Int) : Okay Pr GL 161 [(ze first), (ze second)] [] (zCn (zam first second)) := zw (H := zar) (ent := zlZ id first second) (entA := zlZ zCn first second) zy zy Tryz.func161 rfl (by kernel_rfl) zCn (fun J => by kernel_rfl) (by simp only [zlZ, zb, zt, zu, id]) (show (zny first second).isSome = true by rw [zGc]; rfl)
abbrev R26 := Config
def zGz (r : R26) : zY := ⟨.agg [(ze r.frames), (ze r.major), (ze r.kernel), (ze r.room), .own 0, .own 1, .own 2], [.row 86 (.sl .sWindow) [(0, 150)] [] r.cores, .row 55 .sPartition [(6, 136), (7, 57)] [] r.partitions, .arr 108 .sChannel r.channels]⟩
inductive L26 where | l0 (x0 : Int) (x1 : List (List Window)) | l4 (x1 : Int) (x0 : List (List Window)) (x2 : List Partition)
def zPw : L26 -> Nat | .l0 _ _ => 0 | .l4 _ _ _ => 4
def H26 : z9 := ⟨fun n => [].any (Nat.beq n), zqx [(0, ⟨fgt [1, 2, 3, 4] 79 0, [(.box 3 4, .own 86 (.sl .sWindow))]⟩), (4, ⟨fgt [1, 2, 3, 6] 79 0, [(.box 3 5, .own 55 .sPartition)]⟩)], [], G0, (fun e => match e with | 55 => [(6, 136), (7, 57)] | 86 => [(0, 150)] | _ => [])⟩
noncomputable def st26 (c : Config) : L26 -> St | .l0 x0 x1 => ⟨mkE [(1, .ref 0 0), (2, .ref 1 0), (3, .ref 2 0), (4, (ze x0))] 79 0, [.cells 26 (Ty.enc .sConfig c), .cells 26 [(ze 0), (ze 0), (ze 0), (ze 0), .v (.slice none 0 0), .v (.slice none 0 0), .v (.slice none 0 0)], .cells 26 [(ze c.frames), (ze c.major), (ze c.kernel), (ze c.room), .own 3, .sl .sPartition c.partitions, .sl .sChannel c.channels], .row 86 (.sl .sWindow) [(0, 150)] [] x1], GL, 0, [], (fun e => match e with | 55 => [(6, 136), (7, 57)] | 86 => [(0, 150)] | _ => [])⟩ | .l4 x1 x0 x2 => ⟨mkE [(1, .ref 0 0), (2, .ref 1 0), (3, .ref 2 0), (6, (ze x1))] 79 0, [.cells 26 (Ty.enc .sConfig c), .cells 26 [(ze 0), (ze 0), (ze 0), (ze 0), .v (.slice none 0 0), .v (.slice none 0 0), .v (.slice none 0 0)], .cells 26 [(ze c.frames), (ze c.major), (ze c.kernel), (ze c.room), .own 3, .own 4, .sl .sChannel c.channels], .row 86 (.sl .sWindow) [(0, 150)] [] x0, .row 55 .sPartition [(6, 136), (7, 57)] [] x2], GL, 0, [], (fun e => match e with | 55 => [(6, 136), (7, 57)] | 86 => [(0, 150)] | _ => [])⟩
noncomputable def zfD {R : Type} (ret : R26 -> R) (c : Config) (j : L26 -> Option R) : L26 -> Option R | .l0 x0 x1 =>let y1 := (([] : List Window) ++ zq c.cores x0.toNat); let y2 := (x1 : List (List Window));  cond (decide (x0 < c.cores.length)) (cond (zU x0 c.cores.length) ( cond (leB ((([] : List Window).length + (zq c.cores x0.toNat : List Window).length) * 24) 140737488355328) ( cond (leB ((y2.length + ([y1] : List (List Window)).length) * 24) 140737488355328) (j (.l0 (i64.wrap (x0 + 1)) (y2 ++ [y1]))) none) none) none) (j (.l4 0 x1 [])) | .l4 x1 x0 x2 =>let y1 := za c.partitions x1.toNat; let y2 := (⟨y1.name, y1.entry, y1.action, y1.restarts, y1.inputs, y1.outputs, (([] : List Region) ++ y1.regions), (([] : List Port) ++ y1.ports)⟩ : Partition); let y3 := zU x1 c.partitions.length; let y4 := (x2 : List Partition);  cond (decide (x1 < c.partitions.length)) (cond y3 ( cond y3 ( cond (leB ((([] : List Region).length + (y1.regions : List Region).length) * 32) 140737488355328) ( cond y3 ( cond (leB ((([] : List Port).length + (y1.ports : List Port).length) * 16) 140737488355328) ( cond (leB ((y4.length + ([y2] : List Partition).length) * 104) 140737488355328) ( j (.l4 (i64.wrap (x1 + 1)) x0 (y4 ++ [y2]))) none) none) none) none) none) none) (cond (leB ((([] : List Channel).length + (c.channels : List Channel).length) * 24) 140737488355328) (some (ret (⟨c.frames, c.major, c.kernel, c.room, x0, x2, (([] : List Channel) ++ c.channels)⟩ : Config))) none)
noncomputable def zoq {R : Type} (ret : R26 -> R) (c : Config) (j : L26 -> Option R) : Option R := j (.l0 0 [])
theorem ct26 (c : Config) (l : L26) : CT fun j => zfD id c j l := by cases l <;> (dsimp only [zfD]; repeat (first | exact ctJ _ | exact ctK _ | apply ctC))
def zne (c : Config) : L26 -> Option R26 := lfp (zfD id c)
theorem zim (c : Config) (l : L26) : zne c l = zfD id c (zne c) l := zI (ct26 c) l
def zwI (c : Config) : Option R26 := zoq id c (zne c)
def zai (c : Config) : R26 := (zwI c).getD default
def zp1 (c : Config) : Bool := (zwI c).isSome
theorem zP3 (c : Config) (hc : zp1 c = true) : Okay Pr GL 26 [.agg (Ty.enc .sConfig c)] [] (zGz (zai c)) := zH (H := H26) (bod := zfD id c) (ent := zoq id c) (bodA := zfD zGz c) (entA := zoq zGz c) zy zy Tryz.func26 rfl (by kernel_rfl) zGz zPw (st26 c) (fun J l => by cases l <;> kernel_rfl) (fun J => by kernel_rfl) (fun s l => by cases l <;> simp only [zfD, zb, zt, zu, id]) (fun s => by simp only [zoq, zb, zt, zu, id]) (ct26 c) (by dsimp only [zoq]; repeat (first | exact ctJ _ | exact ctK _ | apply ctC)) hc
abbrev R7 := Bool
def to7 (r : R7) : zY := ⟨(z8 r), []⟩
inductive L7 where | l0 (x0 : Int) (x1 : Int) | l4 (x0 : Int) (x1 : Int)
def num7 : L7 -> Nat | .l0 _ _ => 0 | .l4 _ _ => 4
def H7 : z9 := htt [] [(0, ⟨fgt [1, 3, 4, 42, 43] 66 0, []⟩), (4, ⟨fgt [1, 3, 5] 66 0, []⟩)] []
noncomputable def st7 (c : Config) : L7 -> St | .l0 x0 x1 => stt [(1, .ref 0 0), (3, (ze x0)), (4, (ze x1))] 66 [.cells 26 (Ty.enc .sConfig c)] 0 | .l4 x0 x1 => stt [(1, .ref 0 0), (3, (ze x0)), (5, (ze x1))] 66 [.cells 26 (Ty.enc .sConfig c)] 0
noncomputable def zlr {R : Type} (ret : R7 -> R) (c : Config) (j : L7 -> Option R) : L7 -> Option R | .l0 x0 x1 => cond (decide (x1 < c.cores.length)) (cond (decide (x0 <= 2147483647)) (cond (zU x1 c.cores.length) (j (.l0 (i64.wrap (x0 + (zq c.cores x1.toNat).length)) (i64.wrap (x1 + 1)))) none) (j (.l4 x0 0))) (j (.l4 x0 0)) | .l4 x0 x1 =>let y1 := za c.partitions x1.toNat; let y2 := zU x1 c.partitions.length; let y3 := decide (x0 > 2147483647);  cond (decide (x1 < c.partitions.length)) (cond (decide (x0 <= 2147483647)) (cond y2 ( cond y2 ( j (.l4 (i64.wrap ((i64.wrap (x0 + (y1.regions).length)) + (y1.ports).length)) (i64.wrap (x1 + 1)))) none) none) (some (ret y3))) (some (ret y3))
noncomputable def zAm {R : Type} (ret : R7 -> R) (c : Config) (j : L7 -> Option R) : Option R := j (.l0 (i64.wrap ((i64.wrap (c.cores.length + c.partitions.length)) + c.channels.length)) 0)
theorem ct7 (c : Config) (l : L7) : CT fun j => zlr id c j l := by cases l <;> (dsimp only [zlr]; repeat (first | exact ctJ _ | exact ctK _ | apply ctC))
def zBG (c : Config) : L7 -> Option R7 := lfp (zlr id c)
theorem zlg (c : Config) (l : L7) : zBG c l = zlr id c (zBG c) l := zI (ct7 c) l
def zMv (c : Config) : Option R7 := zAm id c (zBG c)
def sp7 (c : Config) : R7 := (zMv c).getD default
def zGr (c : Config) : Bool := (zMv c).isSome
theorem oks7 (c : Config) (hc : zGr c = true) : Okay Pr GL 7 [.agg (Ty.enc .sConfig c)] [] (to7 (sp7 c)) := zH (H := H7) (bod := zlr id c) (ent := zAm id c) (bodA := zlr to7 c) (entA := zAm to7 c) zy zy Tryz.func7 rfl (by kernel_rfl) to7 num7 (st7 c) (fun J l => by cases l <;> kernel_rfl) (fun J => by kernel_rfl) (fun s l => by cases l <;> simp only [zlr, zb, zt, zu, id]) (fun s => by simp only [zAm, zb, zt, zu, id]) (ct7 c) (by dsimp only [zAm]; repeat (first | exact ctJ _ | exact ctK _ | apply ctC)) hc
abbrev zyy := Bool
def zxS (r : zyy) : zY := ⟨(z8 r), []⟩
inductive zsQ where | l0 (x0 : Int) | l4 (x1 : Int) (x2 : Int) (x3 : List Int) (x4 : Int) (x0 : Int)
def zKO : zsQ -> Nat | .l0 _ => 0 | .l4 _ _ _ _ _ => 4
def H216 : z9 := htt [] [(0, ⟨fgt [0, 1, 2, 7, 14, 15, 16, 28, 29, 30, 31, 32, 48, 49, 50, 51, 52] 56 0, []⟩), (4, ⟨fgt [0, 1, 2, 7, 9, 14, 15, 16, 36, 37, 38] 56 0, []⟩)] []
noncomputable def zRm (stage : Int) (words : Int) (ports : (List Int)) : zsQ -> St | .l0 x0 => stt [(0, (ze stage)), (1, (ze words)), (2, .sl (.i .i64) ports), (7, (ze (i64.wrap (3 + words)))), (14, .sl (.i .i64) ports), (15, (ze ports.length)), (16, (ze x0))] 56 [] 0 | .l4 x1 x2 x3 x4 x0 => stt [(0, (ze stage)), (1, (ze words)), (2, .sl (.i .i64) ports), (7, (ze (i64.wrap (3 + words)))), (9, (ze x1)), (14, .sl (.i .i64) ports), (15, (ze ports.length)), (16, (ze x2)), (36, .sl (.i .i64) x3), (37, (ze x4)), (38, (ze x0))] 56 [] 0
noncomputable def zdz {R : Type} (ret : zyy -> R) (stage : Int) (words : Int) (ports : (List Int)) (j : zsQ -> Option R) : zsQ -> Option R | .l0 x0 =>let y1 := (ports.take x0.toNat).drop 0; let y2 := inS 0 x0 ports.length; let y3 := zN ports x0.toNat;  cond (decide (x0 < ports.length)) (cond (zU x0 ports.length) ( cond (decide ((zN ports x0.toNat : Int) < (i64.wrap ((i64.wrap (stage + 2)) + words)))) (cond (decide ((stage : Int) < (i64.wrap (zN ports x0.toNat + (i64.wrap (3 + words)))))) (some (ret false)) (cond y2 (j (.l4 y3 x0 y1 (y1.length) 0)) none)) (cond y2 (j (.l4 y3 x0 y1 (y1.length) 0)) none)) none) (some (ret true)) | .l4 x1 x2 x3 x4 x0 =>let y1 := i64.wrap (3 + words); let y2 := i64.wrap (x0 + 1);  cond (decide (x0 < x4)) (cond (zU x0 x3.length) ( cond (decide (x1 < (i64.wrap (zN x3 x0.toNat + y1)))) (cond (decide ((zN x3 x0.toNat : Int) < (i64.wrap (x1 + y1)))) (some (ret false)) (j (.l4 x1 x2 x3 x4 y2))) (j (.l4 x1 x2 x3 x4 y2))) none) (j (.l0 (i64.wrap (x2 + 1))))
noncomputable def zjn {R : Type} (ret : zyy -> R) (stage : Int) (words : Int) (ports : (List Int)) (j : zsQ -> Option R) : Option R := j (.l0 0)
theorem zHZ (stage : Int) (words : Int) (ports : (List Int)) (l : zsQ) : CT fun j => zdz id stage words ports j l := by cases l <;> (dsimp only [zdz]; repeat (first | exact ctJ _ | exact ctK _ | apply ctC))
def zc0 (stage : Int) (words : Int) (ports : (List Int)) : zsQ -> Option zyy := lfp (zdz id stage words ports)
theorem zgK (stage : Int) (words : Int) (ports : (List Int)) (l : zsQ) : zc0 stage words ports l = zdz id stage words ports (zc0 stage words ports) l := zI (zHZ stage words ports) l
def zrC (stage : Int) (words : Int) (ports : (List Int)) : Option zyy := zjn id stage words ports (zc0 stage words ports)
def zwB (stage : Int) (words : Int) (ports : (List Int)) : zyy := (zrC stage words ports).getD default
def zr9 (stage : Int) (words : Int) (ports : (List Int)) : Bool := (zrC stage words ports).isSome
theorem zL1 (stage : Int) (words : Int) (ports : (List Int)) (hc : zr9 stage words ports = true) : Okay Pr GL 216 [(ze stage), (ze words), .sl (.i .i64) ports] [] (zxS (zwB stage words ports)) := zH (H := H216) (bod := zdz id stage words ports) (ent := zjn id stage words ports) (bodA := zdz zxS stage words ports) (entA := zjn zxS stage words ports) zy zy Tryz.func216 rfl (by kernel_rfl) zxS zKO (zRm stage words ports) (fun J l => by cases l <;> kernel_rfl) (fun J => by kernel_rfl) (fun s l => by cases l <;> simp only [zdz, zb, zt, zu, id]) (fun s => by simp only [zjn, zb, zt, zu, id]) (zHZ stage words ports) (by dsimp only [zjn]; repeat (first | exact ctJ _ | exact ctK _ | apply ctC)) hc
abbrev R91 := (List LayoutEnd) × (List LayoutEnd)
def zGS (r : R91) : zY := ⟨.tup [.own 0, .own 1], [.arr 208 .sLayoutEnd r.1, .arr 208 .sLayoutEnd r.2]⟩
inductive L91 where | l0 (x0 : Int) (x1 : List LayoutEnd) (x2 : List LayoutEnd) | l4 (x0 : Int) (x1 : Int) (x2 : List Port) (x3 : Int) (x4 : Int) (x5 : List LayoutEnd) (x6 : List LayoutEnd) | l23 (x2 : Int) (x3 : Int) (x4 : List Port) (x5 : Int) (x6 : Int) (x0 : List LayoutEnd) (x1 : List LayoutEnd)
def zPP : L91 -> Nat | .l0 _ _ _ => 0 | .l4 _ _ _ _ _ _ _ => 4 | .l23 _ _ _ _ _ _ _ => 23
def H91 : z9 := htt [11] [(0, ⟨fgt [1, 4, 5, 11, 12, 13] 50 0, [(.slot 4, .own 208 .sLayoutEnd), (.slot 5, .own 208 .sLayoutEnd)]⟩), (4, ⟨fgt [1, 4, 5, 6, 11, 12, 13, 19, 20, 21] 50 0, [(.slot 4, .own 208 .sLayoutEnd), (.slot 5, .own 208 .sLayoutEnd)]⟩), (23, ⟨fgt [1, 4, 5, 6, 11, 12, 13, 19, 20, 21] 50 0, [(.slot 4, .own 208 .sLayoutEnd), (.slot 5, .own 208 .sLayoutEnd)]⟩)] []
noncomputable def st91 (c : Config) (channel : Int) : L91 -> St | .l0 x0 x1 x2 => stt [(1, (ze channel)), (4, .own 0), (5, .own 1), (11, .sl .sPartition c.partitions), (12, (ze c.partitions.length)), (13, (ze x0))] 50 [.arr 208 .sLayoutEnd x1, .arr 208 .sLayoutEnd x2] 0 | .l4 x0 x1 x2 x3 x4 x5 x6 => stt [(1, (ze channel)), (4, .own 0), (5, .own 1), (6, (ze x0)), (11, .sl .sPartition c.partitions), (12, (ze c.partitions.length)), (13, (ze x1)), (19, .sl .sPort x2), (20, (ze x3)), (21, (ze x4))] 50 [.arr 208 .sLayoutEnd x5, .arr 208 .sLayoutEnd x6] 0 | .l23 x2 x3 x4 x5 x6 x0 x1 => stt [(1, (ze channel)), (4, .own 0), (5, .own 1), (6, (ze x2)), (11, .sl .sPartition c.partitions), (12, (ze c.partitions.length)), (13, (ze x3)), (19, .sl .sPort x4), (20, (ze x5)), (21, (ze x6))] 50 [.arr 208 .sLayoutEnd x0, .arr 208 .sLayoutEnd x1] 0
noncomputable def zfm {R : Type} (ret : R91 -> R) (c : Config) (channel : Int) (j : L91 -> Option R) : L91 -> Option R | .l0 x0 x1 x2 =>let y1 := (za c.partitions x0.toNat).ports;  cond (decide (x0 < c.partitions.length)) (cond (zU x0 c.partitions.length) (j (.l4 x0 x0 y1 (y1.length) 0 x1 x2)) none) (some (ret (x1, x2))) | .l4 x0 x1 x2 x3 x4 x5 x6 =>let y1 := (⟨x0, x4⟩ : LayoutEnd); let y2 := ([y1] : List LayoutEnd); let y3 := (x5 : List LayoutEnd); let y4 := (x6 : List LayoutEnd); let y5 := zaI x2 x4.toNat;  cond (decide (x4 < x3)) (cond (zU x4 x2.length) ( cond (!((y5.channel : Int) == channel)) (j (.l23 x0 x1 x2 x3 x4 x5 x6)) (cond (y5.source) (cond (leB ((y3.length + y2.length) * 16) 140737488355328) (j (.l23 x0 x1 x2 x3 x4 (y3 ++ [y1]) x6)) none) (cond (leB ((y4.length + y2.length) * 16) 140737488355328) (j (.l23 x0 x1 x2 x3 x4 x5 (y4 ++ [y1]))) none))) none) (j (.l0 (i64.wrap (x1 + 1)) x5 x6)) | .l23 x2 x3 x4 x5 x6 x0 x1 => j (.l4 x2 x3 x4 x5 (i64.wrap (x6 + 1)) x0 x1)
noncomputable def ztr {R : Type} (ret : R91 -> R) (c : Config) (channel : Int) (j : L91 -> Option R) : Option R := j (.l0 0 [] [])
theorem ct91 (c : Config) (channel : Int) (l : L91) : CT fun j => zfm id c channel j l := by cases l <;> (dsimp only [zfm]; repeat (first | exact ctJ _ | exact ctK _ | apply ctC))
def zg5 (c : Config) (channel : Int) : L91 -> Option R91 := lfp (zfm id c channel)
theorem zgc (c : Config) (channel : Int) (l : L91) : zg5 c channel l = zfm id c channel (zg5 c channel) l := zI (ct91 c channel) l
def zBK (c : Config) (channel : Int) : Option R91 := ztr id c channel (zg5 c channel)
def zud (c : Config) (channel : Int) : R91 := (zBK c channel).getD default
def zqa (c : Config) (channel : Int) : Bool := (zBK c channel).isSome
theorem zQB (c : Config) (channel : Int) (hc : zqa c channel = true) : Okay Pr GL 91 [.agg (Ty.enc .sConfig c), (ze channel)] [] (zGS (zud c channel)) := zH (H := H91) (bod := zfm id c channel) (ent := ztr id c channel) (bodA := zfm zGS c channel) (entA := ztr zGS c channel) zy zy Tryz.func91 rfl (by kernel_rfl) zGS zPP (st91 c channel) (fun J l => by cases l <;> kernel_rfl) (fun J => by kernel_rfl) (fun s l => by cases l <;> simp only [zfm, zb, zt, zu, id]) (fun s => by simp only [ztr, zb, zt, zu, id]) (ct91 c channel) (by dsimp only [ztr]; repeat (first | exact ctJ _ | exact ctK _ | apply ctC)) hc
abbrev R92 := Int
def zMY (r : R92) : zY := ⟨(ze r), []⟩
noncomputable def zoI {R : Type} (ret : R92 -> R) (h_0 : Channel) : Option R := cond (decide ((h_0.words : Int) < 1)) (some (ret 0)) (cond (decide ((h_0.words : Int) > 16)) (some (ret 0)) (cond ((h_0.kind : Int) == 1) (some (ret (i64.wrap (2 + h_0.words)))) (cond ((h_0.kind : Int) == 2) (cond (decide ((h_0.depth : Int) >= 1)) (cond (decide ((h_0.depth : Int) <= 8)) (some (ret (i64.wrap (1 + (i64.wrap (h_0.depth * (i64.wrap (1 + h_0.words)))))))) (some (ret 0))) (some (ret 0))) (some (ret 0)))))
def zpX (h_0 : Channel) : Option R92 := zoI id h_0
def zoe (h_0 : Channel) : R92 := (zpX h_0).getD default
theorem zMq (h_0 : Channel) : zpX h_0 = some (zoe h_0) := zE (show (zpX h_0).isSome = true by simp only [zpX, zoI, zG, Option.isSome_some, zT])
theorem zQC (h_0 : Channel) : Okay Pr GL 92 [.agg (Ty.enc .sChannel h_0)] [] (zMY (zoe h_0)) := zw (H := zar) (ent := zoI id h_0) (entA := zoI zMY h_0) zy zy Tryz.func92 rfl (by kernel_rfl) zMY (fun J => by kernel_rfl) (by simp only [zoI, zb, zt, zu, id]) (show (zpX h_0).isSome = true by rw [zMq]; rfl)
abbrev zyr := (List Int) × Bool
def zxL (r : zyr) : zY := ⟨.tup [.sl (.i .u32) r.1, (z8 r.2)], []⟩
inductive zsJ where | l0 (x0 : Int)
def zKH : zsJ -> Nat | .l0 _ => 0
def H168 : z9 := htt [] [(0, ⟨fgt [0, 4, 19, 20, 21] 33 0, []⟩)] [(.slot 0, .sl (.i .u32))]
noncomputable def zRf (l_0 : (List Int)) : zsJ -> St | .l0 x0 => stt [(0, .sl (.i .u32) l_0), (4, (avU (zN l_0 0))), (19, .sl (.i .u32) ((l_0.take (l_0.length : Int).toNat).drop (u32.wrap (1 + zN l_0 0)).toNat)), (20, (ze (((l_0.take (l_0.length : Int).toNat).drop (u32.wrap (1 + zN l_0 0)).toNat).length))), (21, (ze x0))] 33 [] 0
noncomputable def zeV {R : Type} (ret : zyr -> R) (l_0 : (List Int)) (j : zsJ -> Option R) : zsJ -> Option R | .l0 x0 =>let y1 := u32.wrap (1 + zN l_0 0); let y2 := ((l_0.take (l_0.length : Int).toNat).drop y1.toNat); let y3 := (l_0.take y1.toNat).drop 1;  cond (decide (x0 < y2.length)) (cond (zU x0 y2.length) ( cond (!((zN y2 x0.toNat : Int) == 0)) (some (ret ([], false))) (j (.l0 (i64.wrap (x0 + 1))))) none) (cond (inS 1 y1 l_0.length) ( cond (leB ((([] : List Int).length + (y3 : List Int).length) * 4) 140737488355328) (some (ret ((([] : List Int) ++ y3), true))) none) none)
noncomputable def zja {R : Type} (ret : zyr -> R) (l_0 : (List Int)) (j : zsJ -> Option R) : Option R := cond (zU 0 l_0.length) ( cond (decide ((zN l_0 0 : Int) > (u32.wrap (i64.wrap (l_0.length - 1))))) (some (ret ([], false))) (cond (inS (u32.wrap (1 + zN l_0 0)) l_0.length l_0.length) (j (.l0 0)) none)) none
theorem zHS (l_0 : (List Int)) (l : zsJ) : CT fun j => zeV id l_0 j l := by cases l <;> (dsimp only [zeV]; repeat (first | exact ctJ _ | exact ctK _ | apply ctC))
def zqR (l_0 : (List Int)) : zsJ -> Option zyr := lfp (zeV id l_0)
theorem zpL (l_0 : (List Int)) (l : zsJ) : zqR l_0 l = zeV id l_0 (zqR l_0) l := zI (zHS l_0) l
def zrg (l_0 : (List Int)) : Option zyr := zja id l_0 (zqR l_0)
def zt6 (l_0 : (List Int)) : zyr := (zrg l_0).getD default
def zrU (l_0 : (List Int)) : Bool := (zrg l_0).isSome
theorem zLw (l_0 : (List Int)) (hc : zrU l_0 = true) : Okay Pr GL 168 [.sl (.i .u32) l_0] [] (zxL (zt6 l_0)) := zH (H := H168) (bod := zeV id l_0) (ent := zja id l_0) (bodA := zeV zxL l_0) (entA := zja zxL l_0) zy zy Tryz.func168 rfl (by kernel_rfl) zxL zKH (zRf l_0) (fun J l => by cases l <;> kernel_rfl) (fun J => by kernel_rfl) (fun s l => by cases l <;> simp only [zeV, zb, zt, zu, id]) (fun s => by simp only [zja, zb, zt, zu, id]) (zHS l_0) (by dsimp only [zja]; repeat (first | exact ctJ _ | exact ctK _ | apply ctC)) hc
abbrev R85 := Int
def zMW (r : R85) : zY := ⟨(ze r), []⟩
noncomputable def zto {R : Type} (ret : R85 -> R) (m : (Option MemMemory)) (at_1 : Int) (n_2 : Int) : Option R := cond m.isNone (some (ret 3)) (cond (decide ((at_1 : Int) < 0)) (some (ret 51)) (cond (decide ((n_2 : Int) < 0)) (some (ret 51)) (cond m.isSome ( cond (decide ((at_1 : Int) > ((m.getD default).words).length)) (some (ret 51)) (cond m.isSome ( cond (decide ((n_2 : Int) > (i64.wrap (((m.getD default).words).length - at_1)))) (some (ret 51)) (some (ret 0))) none)) none)))
def zw0 (m : (Option MemMemory)) (at_1 : Int) (n_2 : Int) : Option R85 := zto id m at_1 n_2
def zfg (m : (Option MemMemory)) (at_1 : Int) (n_2 : Int) : R85 := (zw0 m at_1 n_2).getD default
def zft (m : (Option MemMemory)) (at_1 : Int) (n_2 : Int) : Bool := (zw0 m at_1 n_2).isSome
theorem zQx (m : (Option MemMemory)) (at_1 : Int) (n_2 : Int) (hc : zft m at_1 n_2 = true) : Okay Pr GL 85 [.op .sMemMemory m, (ze at_1), (ze n_2)] [] (zMW (zfg m at_1 n_2)) := zw (H := zar) (ent := zto id m at_1 n_2) (entA := zto zMW m at_1 n_2) zy zy Tryz.func85 rfl (by kernel_rfl) zMW (fun J => by kernel_rfl) (by simp only [zto, zb, zt, zu, id]) hc
abbrev zC1 := Int
def zB1 (r : zC1) : zY := ⟨(ze r), []⟩
noncomputable def ziQ {R : Type} (ret : zC1 -> R) (m : (Option MemMemory)) (f : QueueForm) : Option R := cond m.isNone (some (ret 3)) (cond (decide ((f.words : Int) < 1)) (some (ret 1)) (cond (decide ((f.words : Int) > 16)) (some (ret 1)) (cond (decide ((f.depth : Int) < 1)) (some (ret 1)) (cond (decide ((f.depth : Int) > 8)) (some (ret 1)) (some (ret 0))))))
def zjN (m : (Option MemMemory)) (f : QueueForm) : Option zC1 := ziQ id m f
def zer (m : (Option MemMemory)) (f : QueueForm) : zC1 := (zjN m f).getD default
theorem zFX (m : (Option MemMemory)) (f : QueueForm) : zjN m f = some (zer m f) := zE (show (zjN m f).isSome = true by simp only [zjN, ziQ, zG, Option.isSome_some, zT])
theorem zKU (m : (Option MemMemory)) (f : QueueForm) : Okay Pr GL 103 [.op .sMemMemory m, .agg [(ze f.words), (ze f.depth)]] [] (zB1 (zer m f)) := zw (H := zar) (ent := ziQ id m f) (entA := ziQ zB1 m f) zy zy Tryz.func103 rfl (by kernel_rfl) zB1 (fun J => by kernel_rfl) (by simp only [ziQ, zb, zt, zu, id]) (show (zjN m f).isSome = true by rw [zFX]; rfl)
abbrev zDh := Bool
def zCh (r : zDh) : zY := ⟨(z8 r), []⟩
noncomputable def zlQ {R : Type} (ret : zDh -> R) (a : Int) (many : Int) (b : Int) (others : Int) : Option R := cond (decide ((a : Int) < (i64.wrap (b + others)))) (some (ret (decide ((b : Int) < (i64.wrap (a + many)))))) (some (ret false))
def znu (a : Int) (many : Int) (b : Int) (others : Int) : Option zDh := zlQ id a many b others
def zmX (a : Int) (many : Int) (b : Int) (others : Int) : zDh := (znu a many b others).getD default
theorem zF8 (a : Int) (many : Int) (b : Int) (others : Int) : znu a many b others = some (zmX a many b others) := zE (show (znu a many b others).isSome = true by simp only [znu, zlQ, zG, Option.isSome_some, zT])
theorem zLd (a : Int) (many : Int) (b : Int) (others : Int) : Okay Pr GL 147 [(ze a), (ze many), (ze b), (ze others)] [] (zCh (zmX a many b others)) := zw (H := zar) (ent := zlQ id a many b others) (entA := zlQ zCh a many b others) zy zy Tryz.func147 rfl (by kernel_rfl) zCh (fun J => by kernel_rfl) (by simp only [zlQ, zb, zt, zu, id]) (show (znu a many b others).isSome = true by rw [zF8]; rfl)
abbrev R63 := Int
def zMS (r : R63) : zY := ⟨(ze r), []⟩
noncomputable def ztk {R : Type} (ret : R63 -> R) (m : (Option MemMemory)) : Option R := cond m.isNone (some (ret 0)) (cond m.isSome (some (ret (bop .quo .i64 (((m.getD default).words).length) 16))) none)
def zwW (m : (Option MemMemory)) : Option R63 := ztk id m
def zzf (m : (Option MemMemory)) : R63 := (zwW m).getD default
def zp7 (m : (Option MemMemory)) : Bool := (zwW m).isSome
theorem zQp (m : (Option MemMemory)) (hc : zp7 m = true) : Okay Pr GL 63 [.op .sMemMemory m] [] (zMS (zzf m)) := zw (H := zar) (ent := ztk id m) (entA := ztk zMS m) zy zy Tryz.func63 rfl (by kernel_rfl) zMS (fun J => by kernel_rfl) (by simp only [ztk, zb, zt, zu, id]) hc
abbrev zDg := Bool
def zCg (r : zDg) : zY := ⟨(z8 r), []⟩
noncomputable def zi0 {R : Type} (ret : zDg -> R) (n_0 : Int) (least : Int) (most : Int) : Option R := cond (decide ((n_0 : Int) >= least)) (some (ret (decide ((n_0 : Int) <= most)))) (some (ret false))
def zjQ (n_0 : Int) (least : Int) (most : Int) : Option zDg := zi0 id n_0 least most
def zal (n_0 : Int) (least : Int) (most : Int) : zDg := (zjQ n_0 least most).getD default
theorem zF7 (n_0 : Int) (least : Int) (most : Int) : zjQ n_0 least most = some (zal n_0 least most) := zE (show (zjQ n_0 least most).isSome = true by simp only [zjQ, zi0, zG, Option.isSome_some, zT])
theorem zK7 (n_0 : Int) (least : Int) (most : Int) : Okay Pr GL 141 [(ze n_0), (ze least), (ze most)] [] (zCg (zal n_0 least most)) := zw (H := zar) (ent := zi0 id n_0 least most) (entA := zi0 zCg n_0 least most) zy zy Tryz.func141 rfl (by kernel_rfl) zCg (fun J => by kernel_rfl) (by simp only [zi0, zb, zt, zu, id]) (show (zjQ n_0 least most).isSome = true by rw [zF7]; rfl)
abbrev zDm := Where
def zCm (r : zDm) : zY := ⟨.agg [(ze r.first), (ze r.second)], []⟩
noncomputable def zlW {R : Type} (ret : zDm -> R) (first : Int) : Option R := some (ret (⟨first, (-1)⟩ : Where))
def znx (first : Int) : Option zDm := zlW id first
def zA (first : Int) : zDm := (znx first).getD default
theorem zGb (first : Int) : znx first = some (zA first) := zE (show (znx first).isSome = true by simp only [znx, zlW, zG, Option.isSome_some, zT])
theorem zLm (first : Int) : Okay Pr GL 158 [(ze first)] [] (zCm (zA first)) := zw (H := zar) (ent := zlW id first) (entA := zlW zCm first) zy zy Tryz.func158 rfl (by kernel_rfl) zCm (fun J => by kernel_rfl) (by simp only [zlW, zb, zt, zu, id]) (show (znx first).isSome = true by rw [zGb]; rfl)
abbrev R66 := Bool
def zGN (r : R66) : zY := ⟨(z8 r), []⟩
inductive L66 where | l0 (x0 : Int) | l4 (x0 : Int)
def zPK : L66 -> Nat | .l0 _ => 0 | .l4 _ => 4
def H66 : z9 := htt [] [(0, ⟨fgt [1, 2, 20, 21, 65, 66, 67, 68, 69, 70, 71, 72] 75 0, []⟩), (4, ⟨fgt [1, 2, 53, 54] 75 0, []⟩)] []
noncomputable def st66 (p : Partition) (channels : Int) : L66 -> St | .l0 x0 => stt [(1, (ze channels)), (2, .ref 0 0), (20, (ze p.regions.length)), (21, (ze x0))] 75 [.cells 55 (Ty.enc .sPartition p)] 0 | .l4 x0 => stt [(1, (ze channels)), (2, .ref 0 0), (53, (ze p.ports.length)), (54, (ze x0))] 75 [.cells 55 (Ty.enc .sPartition p)] 0
noncomputable def zfG {R : Type} (ret : R66 -> R) (p : Partition) (channels : Int) (j : L66 -> Option R) : L66 -> Option R | .l0 x0 =>let y1 := zm p.regions x0.toNat;  cond (decide (x0 < p.regions.length)) (cond (zU x0 p.regions.length) ( cond (decide ((y1.page : Int) < 0)) (some (ret false)) (cond (decide ((y1.page : Int) > 256)) (some (ret false)) (cond (decide ((y1.pages : Int) < 1)) (some (ret false)) (cond (decide ((y1.pages : Int) > (i64.wrap (256 - y1.page)))) (some (ret false)) (j (.l0 (i64.wrap (x0 + 1)))))))) none) (j (.l4 0)) | .l4 x0 =>let y1 := ((zaI p.ports x0.toNat).channel : Int); let y2 := zU x0 p.ports.length;  cond (decide (x0 < p.ports.length)) (cond y2 ( cond (decide (y1 < 0)) (some (ret false)) (cond y2 ( cond (decide (y1 >= channels)) (some (ret false)) (j (.l4 (i64.wrap (x0 + 1))))) none)) none) (some (ret true))
noncomputable def zoE {R : Type} (ret : R66 -> R) (p : Partition) (channels : Int) (j : L66 -> Option R) : Option R := cond (decide ((p.regions.length : Int) > 8)) (some (ret false)) (cond (decide ((p.ports.length : Int) > 8)) (some (ret false)) (j (.l0 0)))
theorem ct66 (p : Partition) (channels : Int) (l : L66) : CT fun j => zfG id p channels j l := by cases l <;> (dsimp only [zfG]; repeat (first | exact ctJ _ | exact ctK _ | apply ctC))
def zuk (p : Partition) (channels : Int) : L66 -> Option R66 := lfp (zfG id p channels)
theorem zis (p : Partition) (channels : Int) (l : L66) : zuk p channels l = zfG id p channels (zuk p channels) l := zI (ct66 p channels) l
def zwZ (p : Partition) (channels : Int) : Option R66 := zoE id p channels (zuk p channels)
def zGl (p : Partition) (channels : Int) : R66 := (zwZ p channels).getD default
def zxe (p : Partition) (channels : Int) : Bool := (zwZ p channels).isSome
theorem zQs (p : Partition) (channels : Int) (hc : zxe p channels = true) : Okay Pr GL 66 [.agg (Ty.enc .sPartition p), (ze channels)] [] (zGN (zGl p channels)) := zH (H := H66) (bod := zfG id p channels) (ent := zoE id p channels) (bodA := zfG zGN p channels) (entA := zoE zGN p channels) zy zy Tryz.func66 rfl (by kernel_rfl) zGN zPK (st66 p channels) (fun J l => by cases l <;> kernel_rfl) (fun J => by kernel_rfl) (fun s l => by cases l <;> simp only [zfG, zb, zt, zu, id]) (fun s => by simp only [zoE, zb, zt, zu, id]) (ct66 p channels) (by dsimp only [zoE]; repeat (first | exact ctJ _ | exact ctK _ | apply ctC)) hc
abbrev zyc := Bool
def zxw (r : zyc) : zY := ⟨(z8 r), []⟩
inductive zsu where | l0 (x0 : Int) | l4 (x0 : Int)
def zKs : zsu -> Nat | .l0 _ => 0 | .l4 _ => 4
def H139 : z9 := htt [] [(0, ⟨fgt [2, 3, 20, 21, 22, 59, 60, 61, 62, 63, 64] 67 0, []⟩), (4, ⟨fgt [2, 49, 50, 51] 67 0, []⟩)] []
noncomputable def zQ0 (c : Config) (x : Partition) : zsu -> St | .l0 x0 => stt [(2, .ref 0 0), (3, .ref 1 0), (20, .sl .sRegion x.regions), (21, (ze x.regions.length)), (22, (ze x0))] 67 [.cells 26 (Ty.enc .sConfig c), .cells 55 (Ty.enc .sPartition x)] 0 | .l4 x0 => stt [(2, .ref 0 0), (49, .sl .sPort x.ports), (50, (ze x.ports.length)), (51, (ze x0))] 67 [.cells 26 (Ty.enc .sConfig c)] 0
noncomputable def zdu {R : Type} (ret : zyc -> R) (c : Config) (x : Partition) (j : zsu -> Option R) : zsu -> Option R | .l0 x0 =>let y1 := zm x.regions x0.toNat;  cond (decide (x0 < x.regions.length)) (cond (zU x0 x.regions.length) ( cond (decide ((y1.page : Int) < 0)) (some (ret false)) (cond (decide ((y1.page : Int) > 256)) (some (ret false)) (cond (decide ((y1.pages : Int) < 1)) (some (ret false)) (cond (decide ((y1.pages : Int) > (i64.wrap (256 - y1.page)))) (some (ret false)) (j (.l0 (i64.wrap (x0 + 1)))))))) none) (j (.l4 0)) | .l4 x0 =>let y1 := ((zaI x.ports x0.toNat).channel : Int);  cond (decide (x0 < x.ports.length)) (cond (zU x0 x.ports.length) ( cond (decide (y1 < 0)) (some (ret false)) (cond (decide (y1 >= c.channels.length)) (some (ret false)) (j (.l4 (i64.wrap (x0 + 1)))))) none) (some (ret true))
noncomputable def ziZ {R : Type} (ret : zyc -> R) (c : Config) (x : Partition) (j : zsu -> Option R) : Option R := cond (decide ((x.regions.length : Int) > 8)) (some (ret false)) (cond (decide ((x.ports.length : Int) > 8)) (some (ret false)) (j (.l0 0)))
theorem zHD (c : Config) (x : Partition) (l : zsu) : CT fun j => zdu id c x j l := by cases l <;> (dsimp only [zdu]; repeat (first | exact ctJ _ | exact ctK _ | apply ctC))
def zm8 (c : Config) (x : Partition) : zsu -> Option zyc := lfp (zdu id c x)
theorem zgF (c : Config) (x : Partition) (l : zsu) : zm8 c x l = zdu id c x (zm8 c x) l := zI (zHD c x) l
def zq4 (c : Config) (x : Partition) : Option zyc := ziZ id c x (zm8 c x)
def zwv (c : Config) (x : Partition) : zyc := (zq4 c x).getD default
def zrK (c : Config) (x : Partition) : Bool := (zq4 c x).isSome
theorem zK5 (c : Config) (x : Partition) (hc : zrK c x = true) : Okay Pr GL 139 [.agg (Ty.enc .sConfig c), .agg (Ty.enc .sPartition x)] [] (zxw (zwv c x)) := zH (H := H139) (bod := zdu id c x) (ent := ziZ id c x) (bodA := zdu zxw c x) (entA := ziZ zxw c x) zy zy Tryz.func139 rfl (by kernel_rfl) zxw zKs (zQ0 c x) (fun J l => by cases l <;> kernel_rfl) (fun J => by kernel_rfl) (fun s l => by cases l <;> simp only [zdu, zb, zt, zu, id]) (fun s => by simp only [ziZ, zb, zt, zu, id]) (zHD c x) (by dsimp only [ziZ]; repeat (first | exact ctJ _ | exact ctK _ | apply ctC)) hc
abbrev R25 := Config
def zMI (r : R25) : zY := ⟨.agg [(ze r.frames), (ze r.major), (ze r.kernel), (ze r.room), .own 0, .own 1, .own 2], [.arr 86 (.sl .sWindow) r.cores, .arr 55 .sPartition r.partitions, .arr 108 .sChannel r.channels]⟩
noncomputable def ztd {R : Type} (ret : R25 -> R) : Option R := some (ret (⟨16, 600, 3, 13, [[(⟨0, 100, 100⟩ : Window), (⟨1, 100, 100⟩ : Window), (⟨2, 100, 100⟩ : Window)]], [(⟨(ByteArray.mk #[97]), 0, 0, 0, 1, 1, [(⟨0, 1, 0, 7⟩ : Region)], [(⟨0, true⟩ : Port), (⟨1, true⟩ : Port)]⟩ : Partition), (⟨(ByteArray.mk #[98]), 0, 0, 0, 0, 0, [(⟨0, 1, 1, 5⟩ : Region)], [(⟨0, false⟩ : Port), (⟨1, false⟩ : Port)]⟩ : Partition), (⟨(ByteArray.mk #[99]), 0, 0, 0, 0, 0, [(⟨0, 1, 2, 7⟩ : Region)], [(⟨0, false⟩ : Port)]⟩ : Partition)], [(⟨1, 2, 0⟩ : Channel), (⟨2, 1, 2⟩ : Channel)]⟩ : Config))
def zuo : Option R25 := ztd id
def sp25 : R25 := (zuo).getD default
theorem zMm : zuo = some (sp25) := zE (show (zuo).isSome = true by simp only [zuo, ztd, zG, Option.isSome_some, zT])
theorem zP2 : Okay Pr GL 25 [] [] (zMI (sp25)) := zw (H := zar) (ent := ztd id) (entA := ztd zMI) zy zy Tryz.func25 rfl (by kernel_rfl) zMI (fun J => by kernel_rfl) (by simp only [ztd, zb, zt, zu, id]) (show (zuo).isSome = true by rw [zMm]; rfl)
abbrev zx5 := Int × Int
def zxp (r : zx5) : zY := ⟨.tup [(ze r.1), (ze r.2)], []⟩
inductive zsn where | l0 (x0 : Int) | l4 (x1 : Int) (x2 : Int) (x3 : Int) (x0 : Int)
def zKl : zsn -> Nat | .l0 _ => 0 | .l4 _ _ _ _ => 4
def H102 : z9 := htt [] [(0, ⟨fgt [1, 2, 10, 11, 37, 38, 39, 40, 41, 42, 43, 44, 45, 46] 52 0, []⟩), (4, ⟨fgt [1, 2, 6, 10, 11, 20, 21] 52 0, []⟩)] []
noncomputable def zQT (c : Config) (channel : Int) : zsn -> St | .l0 x0 => stt [(1, (ze channel)), (2, .ref 0 0), (10, (ze c.partitions.length)), (11, (ze x0))] 52 [.cells 26 (Ty.enc .sConfig c)] 0 | .l4 x1 x2 x3 x0 => stt [(1, (ze channel)), (2, .ref 0 0), (6, (ze x1)), (10, (ze c.partitions.length)), (11, (ze x2)), (20, (ze x3)), (21, (ze x0))] 52 [.cells 26 (Ty.enc .sConfig c)] 0
noncomputable def zds {R : Type} (ret : zx5 -> R) (c : Config) (channel : Int) (j : zsn -> Option R) : zsn -> Option R | .l0 x0 => cond (decide (x0 < c.partitions.length)) (cond (zU x0 c.partitions.length) (j (.l4 x0 x0 (((za c.partitions x0.toNat).ports).length) 0)) none) (some (ret (0, 0))) | .l4 x1 x2 x3 x0 =>let y1 := (za c.partitions x1.toNat).ports; let y2 := zU x1 c.partitions.length; let y3 := i64.wrap (x0 + 1); let y4 := zaI y1 x0.toNat;  cond (decide (x0 < x3)) (cond y2 ( cond (zU x0 y1.length) ( cond ((y4.channel : Int) == channel) (cond y2 ( cond (zU x0 y1.length) ( cond (y4.source) (some (ret (x1, x0))) (j (.l4 x1 x2 x3 y3))) none) none) (j (.l4 x1 x2 x3 y3))) none) none) (j (.l0 (i64.wrap (x2 + 1))))
noncomputable def zlA {R : Type} (ret : zx5 -> R) (c : Config) (channel : Int) (j : zsn -> Option R) : Option R := j (.l0 0)
theorem zHw (c : Config) (channel : Int) (l : zsn) : CT fun j => zds id c channel j l := by cases l <;> (dsimp only [zds]; repeat (first | exact ctJ _ | exact ctK _ | apply ctC))
def zm4 (c : Config) (channel : Int) : zsn -> Option zx5 := lfp (zds id c channel)
theorem zgD (c : Config) (channel : Int) (l : zsn) : zm4 c channel l = zds id c channel (zm4 c channel) l := zI (zHw c channel) l
def zvy (c : Config) (channel : Int) : Option zx5 := zlA id c channel (zm4 c channel)
def zmW (c : Config) (channel : Int) : zx5 := (zvy c channel).getD default
def zrF (c : Config) (channel : Int) : Bool := (zvy c channel).isSome
theorem zKT (c : Config) (channel : Int) (hc : zrF c channel = true) : Okay Pr GL 102 [.agg (Ty.enc .sConfig c), (ze channel)] [] (zxp (zmW c channel)) := zH (H := H102) (bod := zds id c channel) (ent := zlA id c channel) (bodA := zds zxp c channel) (entA := zlA zxp c channel) zy zy Tryz.func102 rfl (by kernel_rfl) zxp zKl (zQT c channel) (fun J l => by cases l <;> kernel_rfl) (fun J => by kernel_rfl) (fun s l => by cases l <;> simp only [zds, zb, zt, zu, id]) (fun s => by simp only [zlA, zb, zt, zu, id]) (zHw c channel) (by dsimp only [zlA]; repeat (first | exact ctJ _ | exact ctK _ | apply ctC)) hc
abbrev zyo := Int × Int
def zxI (r : zyo) : zY := ⟨.tup [(ze r.1), (ze r.2)], []⟩
inductive zsG where | l0 (x1 : Int) (x2 : Int) (x0 : Int) | l4 (x0 : Int) (x1 : Int) (x3 : Int) (x4 : List Port) (x5 : Int) (x2 : Int) | l23 (x0 : Int) (x1 : Int) (x2 : Int) (x3 : List Port) (x4 : Int) (x5 : Int)
def zKE : zsG -> Nat | .l0 _ _ _ => 0 | .l4 _ _ _ _ _ _ => 4 | .l23 _ _ _ _ _ _ => 23
def H162 : z9 := htt [11] [(0, ⟨fgt [1, 4, 5, 11, 12, 13] 40 0, []⟩), (4, ⟨fgt [1, 4, 5, 11, 12, 13, 18, 19, 20] 40 0, []⟩), (23, ⟨fgt [1, 4, 5, 11, 12, 13, 18, 19, 20] 40 0, []⟩)] []
noncomputable def zRc (c : Config) (h_1 : Int) : zsG -> St | .l0 x1 x2 x0 => stt [(1, (ze h_1)), (4, (ze x1)), (5, (ze x2)), (11, .sl .sPartition c.partitions), (12, (ze c.partitions.length)), (13, (ze x0))] 40 [] 0 | .l4 x0 x1 x3 x4 x5 x2 => stt [(1, (ze h_1)), (4, (ze x0)), (5, (ze x1)), (11, .sl .sPartition c.partitions), (12, (ze c.partitions.length)), (13, (ze x3)), (18, .sl .sPort x4), (19, (ze x5)), (20, (ze x2))] 40 [] 0 | .l23 x0 x1 x2 x3 x4 x5 => stt [(1, (ze h_1)), (4, (ze x0)), (5, (ze x1)), (11, .sl .sPartition c.partitions), (12, (ze c.partitions.length)), (13, (ze x2)), (18, .sl .sPort x3), (19, (ze x4)), (20, (ze x5))] 40 [] 0
noncomputable def zcU {R : Type} (ret : zyo -> R) (c : Config) (h_1 : Int) (j : zsG -> Option R) : zsG -> Option R | .l0 x1 x2 x0 =>let y1 := (za c.partitions x0.toNat).ports;  cond (decide (x0 < c.partitions.length)) (cond (zU x0 c.partitions.length) (j (.l4 x1 x2 x0 y1 (y1.length) 0)) none) (some (ret (x1, x2))) | .l4 x0 x1 x3 x4 x5 x2 =>let y1 := zaI x4 x2.toNat;  cond (decide (x2 < x5)) (cond (zU x2 x4.length) ( cond (!((y1.channel : Int) == h_1)) (j (.l23 x0 x1 x3 x4 x5 x2)) (cond (y1.source) (j (.l23 (i64.wrap (x0 + 1)) x1 x3 x4 x5 x2)) (j (.l23 x0 (i64.wrap (x1 + 1)) x3 x4 x5 x2)))) none) (j (.l0 x0 x1 (i64.wrap (x3 + 1)))) | .l23 x0 x1 x2 x3 x4 x5 => j (.l4 x0 x1 x2 x3 x4 (i64.wrap (x5 + 1)))
noncomputable def zl0 {R : Type} (ret : zyo -> R) (c : Config) (h_1 : Int) (j : zsG -> Option R) : Option R := j (.l0 0 0 0)
theorem zHP (c : Config) (h_1 : Int) (l : zsG) : CT fun j => zcU id c h_1 j l := by cases l <;> (dsimp only [zcU]; repeat (first | exact ctJ _ | exact ctK _ | apply ctC))
def zd6 (c : Config) (h_1 : Int) : zsG -> Option zyo := lfp (zcU id c h_1)
theorem zez (c : Config) (h_1 : Int) (l : zsG) : zd6 c h_1 l = zcU id c h_1 (zd6 c h_1) l := zI (zHP c h_1) l
def zvD (c : Config) (h_1 : Int) : Option zyo := zl0 id c h_1 (zd6 c h_1)
def zps (c : Config) (h_1 : Int) : zyo := (zvD c h_1).getD default
def zrS (c : Config) (h_1 : Int) : Bool := (zvD c h_1).isSome
theorem zLq (c : Config) (h_1 : Int) (hc : zrS c h_1 = true) : Okay Pr GL 162 [.agg (Ty.enc .sConfig c), (ze h_1)] [] (zxI (zps c h_1)) := zH (H := H162) (bod := zcU id c h_1) (ent := zl0 id c h_1) (bodA := zcU zxI c h_1) (entA := zl0 zxI c h_1) zy zy Tryz.func162 rfl (by kernel_rfl) zxI zKE (zRc c h_1) (fun J l => by cases l <;> kernel_rfl) (fun J => by kernel_rfl) (fun s l => by cases l <;> simp only [zcU, zb, zt, zu, id]) (fun s => by simp only [zl0, zb, zt, zu, id]) (zHP c h_1) (by dsimp only [zl0]; repeat (first | exact ctJ _ | exact ctK _ | apply ctC)) hc
abbrev zyh := Bool
def zxB (r : zyh) : zY := ⟨(z8 r), []⟩
inductive zsz where | l0 (x0 : Int) | l4 (x1 : Int) (x0 : Int)
def zKx : zsz -> Nat | .l0 _ => 0 | .l4 _ _ => 4
def H146 : z9 := htt [] [(0, ⟨fgt [1, 2, 3, 7, 27, 28, 29, 30, 31, 32, 33, 34, 35, 36, 37] 39 0, []⟩), (4, ⟨fgt [1, 2, 3, 7, 8] 39 0, []⟩)] []
noncomputable def zQ5 (c : Config) (core : Int) (p : Int) : zsz -> St | .l0 x0 => stt [(1, (ze core)), (2, (ze p)), (3, .ref 0 0), (7, (ze x0))] 39 [.cells 26 (Ty.enc .sConfig c)] 0 | .l4 x1 x0 => stt [(1, (ze core)), (2, (ze p)), (3, .ref 0 0), (7, (ze x1)), (8, (ze x0))] 39 [.cells 26 (Ty.enc .sConfig c)] 0
noncomputable def zdv {R : Type} (ret : zyh -> R) (c : Config) (core : Int) (p : Int) (j : zsz -> Option R) : zsz -> Option R | .l0 x0 => cond (decide (x0 < core)) (j (.l4 x0 0)) (some (ret false)) | .l4 x1 x0 =>let y1 := zq c.cores x1.toNat; let y2 := i64.wrap (x0 + 1); let y3 := zU x1 c.cores.length;  cond y3 ( cond (decide (x0 < y1.length)) (cond (!((p : Int) == (-1))) (cond y3 ( cond (zU x0 y1.length) ( cond (((zaZ y1 x0.toNat).partition : Int) == p) (some (ret true)) (j (.l4 x1 y2))) none) none) (j (.l4 x1 y2))) (j (.l0 (i64.wrap (x1 + 1))))) none
noncomputable def zlP {R : Type} (ret : zyh -> R) (c : Config) (core : Int) (p : Int) (j : zsz -> Option R) : Option R := j (.l0 0)
theorem zHI (c : Config) (core : Int) (p : Int) (l : zsz) : CT fun j => zdv id c core p j l := by cases l <;> (dsimp only [zdv]; repeat (first | exact ctJ _ | exact ctK _ | apply ctC))
def zfh (c : Config) (core : Int) (p : Int) : zsz -> Option zyh := lfp (zdv id c core p)
theorem zgG (c : Config) (core : Int) (p : Int) (l : zsz) : zfh c core p l = zdv id c core p (zfh c core p) l := zI (zHI c core p) l
def zvB (c : Config) (core : Int) (p : Int) : Option zyh := zlP id c core p (zfh c core p)
def zwy (c : Config) (core : Int) (p : Int) : zyh := (zvB c core p).getD default
def zrO (c : Config) (core : Int) (p : Int) : Bool := (zvB c core p).isSome
theorem zLc (c : Config) (core : Int) (p : Int) (hc : zrO c core p = true) : Okay Pr GL 146 [.agg (Ty.enc .sConfig c), (ze core), (ze p)] [] (zxB (zwy c core p)) := zH (H := H146) (bod := zdv id c core p) (ent := zlP id c core p) (bodA := zdv zxB c core p) (entA := zlP zxB c core p) zy zy Tryz.func146 rfl (by kernel_rfl) zxB zKx (zQ5 c core p) (fun J l => by cases l <;> kernel_rfl) (fun J => by kernel_rfl) (fun s l => by cases l <;> simp only [zdv, zb, zt, zu, id]) (fun s => by simp only [zlP, zb, zt, zu, id]) (zHI c core p) (by dsimp only [zlP]; repeat (first | exact ctJ _ | exact ctK _ | apply ctC)) hc
abbrev zyp := Bool
def zxJ (r : zyp) : zY := ⟨(z8 r), []⟩
inductive zsH where | l0 (x0 : Int) | l4 (x1 : Int) (x2 : List Window) (x3 : Int) (x0 : Int)
def zKF : zsH -> Nat | .l0 _ => 0 | .l4 _ _ _ _ => 4
def H163 : z9 := htt [] [(0, ⟨fgt [2, 14, 15, 16, 29, 30, 31, 32] 36 0, []⟩), (4, ⟨fgt [2, 14, 15, 16, 20, 21, 22] 36 0, []⟩)] []
noncomputable def zRd (c : Config) (k : Int) (p : Int) : zsH -> St | .l0 x0 => stt [(2, (ze p)), (14, .sl (.sl .sWindow) ((c.cores.take k.toNat).drop 0)), (15, (ze (((c.cores.take k.toNat).drop 0).length))), (16, (ze x0))] 36 [] 0 | .l4 x1 x2 x3 x0 => stt [(2, (ze p)), (14, .sl (.sl .sWindow) ((c.cores.take k.toNat).drop 0)), (15, (ze (((c.cores.take k.toNat).drop 0).length))), (16, (ze x1)), (20, .sl .sWindow x2), (21, (ze x3)), (22, (ze x0))] 36 [] 0
noncomputable def zdw {R : Type} (ret : zyp -> R) (c : Config) (k : Int) (p : Int) (j : zsH -> Option R) : zsH -> Option R | .l0 x0 =>let y1 := (c.cores.take k.toNat).drop 0; let y2 := zq y1 x0.toNat;  cond (decide (x0 < y1.length)) (cond (zU x0 y1.length) ( j (.l4 x0 y2 (y2.length) 0)) none) (some (ret false)) | .l4 x1 x2 x3 x0 =>let y1 := i64.wrap (x0 + 1);  cond (decide (x0 < x3)) (cond (zU x0 x2.length) ( cond (decide ((p : Int) >= 0)) (cond (((zaZ x2 x0.toNat).partition : Int) == p) (some (ret true)) (j (.l4 x1 x2 x3 y1))) (j (.l4 x1 x2 x3 y1))) none) (j (.l0 (i64.wrap (x1 + 1))))
noncomputable def zi7 {R : Type} (ret : zyp -> R) (c : Config) (k : Int) (p : Int) (j : zsH -> Option R) : Option R := cond (inS 0 k c.cores.length) (j (.l0 0)) none
theorem zHQ (c : Config) (k : Int) (p : Int) (l : zsH) : CT fun j => zdw id c k p j l := by cases l <;> (dsimp only [zdw]; repeat (first | exact ctJ _ | exact ctK _ | apply ctC))
def zf9 (c : Config) (k : Int) (p : Int) : zsH -> Option zyp := lfp (zdw id c k p)
theorem zgH (c : Config) (k : Int) (p : Int) (l : zsH) : zf9 c k p l = zdw id c k p (zf9 c k p) l := zI (zHQ c k p) l
def zrd (c : Config) (k : Int) (p : Int) : Option zyp := zi7 id c k p (zf9 c k p)
def zwA (c : Config) (k : Int) (p : Int) : zyp := (zrd c k p).getD default
def znE (c : Config) (k : Int) (p : Int) : Bool := (zrd c k p).isSome
theorem zLr (c : Config) (k : Int) (p : Int) (hc : znE c k p = true) : Okay Pr GL 163 [.agg (Ty.enc .sConfig c), (ze k), (ze p)] [] (zxJ (zwA c k p)) := zH (H := H163) (bod := zdw id c k p) (ent := zi7 id c k p) (bodA := zdw zxJ c k p) (entA := zi7 zxJ c k p) zy zy Tryz.func163 rfl (by kernel_rfl) zxJ zKF (zRd c k p) (fun J l => by cases l <;> kernel_rfl) (fun J => by kernel_rfl) (fun s l => by cases l <;> simp only [zdw, zb, zt, zu, id]) (fun s => by simp only [zi7, zb, zt, zu, id]) (zHQ c k p) (by dsimp only [zi7]; repeat (first | exact ctJ _ | exact ctK _ | apply ctC)) hc
abbrev zyk := AdmitFound
def zxE (r : zyk) : zY := ⟨.agg [(ze r.e), (ze r.where_.first), (ze r.where_.second)], []⟩
inductive zsC where | l0 (x0 : Int)
def zKA : zsC -> Nat | .l0 _ => 0
def H156 : z9 := htt [] [(0, ⟨fgt [2, 5, 6, 7] 17 0, []⟩)] []
noncomputable def zQ8 (l_0 : (List AdmitFound)) : zsC -> St | .l0 x0 => stt [(2, .ref 0 0), (5, .sl .sAdmitFound l_0), (6, (ze l_0.length)), (7, (ze x0))] 17 [.cells 199 [(ze 0), (ze 0), (ze 0)]] 0
noncomputable def zeR {R : Type} (ret : zyk -> R) (l_0 : (List AdmitFound)) (j : zsC -> Option R) : zsC -> Option R | .l0 x0 =>let y1 := zc9 l_0 x0.toNat;  cond (decide (x0 < l_0.length)) (cond (zU x0 l_0.length) ( cond (!(((y1.e : Int) == fine.e) && ((((y1.where_.first : Int) == fine.where_.first) && (((y1.where_.second : Int) == fine.where_.second) && true)) && true))) (some (ret y1)) (j (.l0 (i64.wrap (x0 + 1))))) none) (some (ret fine))
noncomputable def zlV {R : Type} (ret : zyk -> R) (l_0 : (List AdmitFound)) (j : zsC -> Option R) : Option R := j (.l0 0)
theorem zHL (l_0 : (List AdmitFound)) (l : zsC) : CT fun j => zeR id l_0 j l := by cases l <;> (dsimp only [zeR]; repeat (first | exact ctJ _ | exact ctK _ | apply ctC))
def zqP (l_0 : (List AdmitFound)) : zsC -> Option zyk := lfp (zeR id l_0)
theorem zpH (l_0 : (List AdmitFound)) (l : zsC) : zqP l_0 l = zeR id l_0 (zqP l_0) l := zI (zHL l_0) l
def zhy (l_0 : (List AdmitFound)) : Option zyk := zlV id l_0 (zqP l_0)
def zaN (l_0 : (List AdmitFound)) : zyk := (zhy l_0).getD default
def zaV (l_0 : (List AdmitFound)) : Bool := (zhy l_0).isSome
theorem zLk (l_0 : (List AdmitFound)) (hc : zaV l_0 = true) : Okay Pr GL 156 [.sl .sAdmitFound l_0] [] (zxE (zaN l_0)) := zH (H := H156) (bod := zeR id l_0) (ent := zlV id l_0) (bodA := zeR zxE l_0) (entA := zlV zxE l_0) zy zy Tryz.func156 rfl (by kernel_rfl) zxE zKA (zQ8 l_0) (fun J l => by cases l <;> kernel_rfl) (fun J => by kernel_rfl) (fun s l => by cases l <;> simp only [zeR, zb, zt, zu, id]) (fun s => by simp only [zlV, zb, zt, zu, id]) (zHL l_0) (by dsimp only [zlV]; repeat (first | exact ctJ _ | exact ctK _ | apply ctC)) hc
abbrev R31 := Bulkheadref05Memory × Int
def zML (r : R31) : zY := ⟨.tup [.ref 0 0, (ze r.2)], [.cells 84 [.own 1], .arr 44 (.i .u32) r.1.w]⟩
def H31 : z9 := ⟨fun _ => false, fun _ => ⟨[], []⟩, [(.slot 0, .fnc)], G0, zfX⟩
noncomputable def ztg {R : Type} (ret : R31 -> R) (frames : Int) : Option R := cond (decide ((frames : Int) < 1)) (none) (cond (decide ((frames : Int) > 1024)) (none) (cond (decide (((i64.wrap (16 * frames)) : Int) = (i64.wrap (16 * frames))) && decide (0 <= (i64.wrap (16 * frames))) && leB ((i64.wrap (16 * frames)).toNat * 4) 140737488355328) (some (ret ((⟨(List.replicate (i64.wrap (16 * frames)).toNat (0 : Int))⟩ : Bulkheadref05Memory), 0))) none))
def zwM (frames : Int) : Option R31 := ztg id frames
def zex (frames : Int) : R31 := (zwM frames).getD default
def zgg (frames : Int) : Bool := (zwM frames).isSome
theorem zP8 (frames : Int) (hc : zgg frames = true) : Okay Pr GL 31 [(ze frames)] [] (zML (zex frames)) := zw (H := H31) (ent := ztg id frames) (entA := ztg zML frames) zy zy Tryz.func31 rfl (by kernel_rfl) zML (fun J => by kernel_rfl) (by simp only [ztg, zb, zt, zu, id]) hc
abbrev R36 := (List Int)
def zMO (r : R36) : zY := ⟨.own 0, [.arr 44 (.i .u32) r]⟩
noncomputable def zos {R : Type} (ret : R36 -> R) (s_0 : (List Int)) : Option R := cond (Nat.beq s_0.length 0) (none) (cond (leB ((([] : List Int).length + (s_0 : List Int).length) * 4) 140737488355328) (some (ret (([] : List Int) ++ s_0))) none)
def zpU (s_0 : (List Int)) : Option R36 := zos id s_0
def zzc (s_0 : (List Int)) : R36 := (zpU s_0).getD default
def zp2 (s_0 : (List Int)) : Bool := (zpU s_0).isSome
theorem zQc (s_0 : (List Int)) (hc : zp2 s_0 = true) : Okay Pr GL 36 [.sl (.i .u32) s_0] [] (zMO (zzc s_0)) := zw (H := zar) (ent := zos id s_0) (entA := zos zMO s_0) zy zy Tryz.func36 rfl (by kernel_rfl) zMO (fun J => by kernel_rfl) (by simp only [zos, zb, zt, zu, id]) hc
abbrev zC6 := Bool
def zB6 (r : zC6) : zY := ⟨(z8 r), []⟩
noncomputable def ziU {R : Type} (ret : zC6 -> R) (n_0 : Int) (least : Int) (most : Int) : Option R := cond (decide ((n_0 : Int) >= least)) (some (ret (decide ((n_0 : Int) <= most)))) (some (ret false))
def zjP (n_0 : Int) (least : Int) (most : Int) : Option zC6 := ziU id n_0 least most
def zW (n_0 : Int) (least : Int) (most : Int) : zC6 := (zjP n_0 least most).getD default
theorem zF1 (n_0 : Int) (least : Int) (most : Int) : zjP n_0 least most = some (zW n_0 least most) := zE (show (zjP n_0 least most).isSome = true by simp only [zjP, ziU, zG, Option.isSome_some, zT])
theorem zK0 (n_0 : Int) (least : Int) (most : Int) : Okay Pr GL 126 [(ze n_0), (ze least), (ze most)] [] (zB6 (zW n_0 least most)) := zw (H := zar) (ent := ziU id n_0 least most) (entA := ziU zB6 n_0 least most) zy zy Tryz.func126 rfl (by kernel_rfl) zB6 (fun J => by kernel_rfl) (by simp only [ziU, zb, zt, zu, id]) (show (zjP n_0 least most).isSome = true by rw [zF1]; rfl)
abbrev R99 := Where
def zM3 (r : R99) : zY := ⟨.agg [(ze r.first), (ze r.second)], []⟩
noncomputable def ztv {R : Type} (ret : R99 -> R) (first : Int) : Option R := some (ret (⟨first, (-1)⟩ : Where))
def zuv (first : Int) : Option R99 := ztv id first
def zhv (first : Int) : R99 := (zuv first).getD default
theorem zMu (first : Int) : zuv first = some (zhv first) := zE (show (zuv first).isSome = true by simp only [zuv, ztv, zG, Option.isSome_some, zT])
theorem zQJ (first : Int) : Okay Pr GL 99 [(ze first)] [] (zM3 (zhv first)) := zw (H := zar) (ent := ztv id first) (entA := ztv zM3 first) zy zy Tryz.func99 rfl (by kernel_rfl) zM3 (fun J => by kernel_rfl) (by simp only [ztv, zb, zt, zu, id]) (show (zuv first).isSome = true by rw [zMu]; rfl)
abbrev R96 := Where
def zM1 (r : R96) : zY := ⟨.agg [(ze r.first), (ze r.second)], []⟩
noncomputable def ztt {R : Type} (ret : R96 -> R) : Option R := some (ret (⟨(-1), (-1)⟩ : Where))
def zuu : Option R96 := ztt id
def sp96 : R96 := (zuu).getD default
theorem zMt : zuu = some (sp96) := zE (show (zuu).isSome = true by simp only [zuu, ztt, zG, Option.isSome_some, zT])
theorem zQG : Okay Pr GL 96 [] [] (zM1 (sp96)) := zw (H := zar) (ent := ztt id) (entA := ztt zM1) zy zy Tryz.func96 rfl (by kernel_rfl) zM1 (fun J => by kernel_rfl) (by simp only [ztt, zb, zt, zu, id]) (show (zuu).isSome = true by rw [zMt]; rfl)
def g7 := zQ (zV (rdS .sConfig) fun a0 => zP ((zGr a0), (z8 (sp7 a0)), []))
theorem zPf : zD 7 g7 := zj (zC Tryz.func7 (by kernel_rfl) rfl) (zg fun x0 a0 h0 => zi fun hb => (oks7 a0 hb).ats (.cons (zM h0) .nil))
def g21 := zQ (zV (rdS .sConfig) fun a0 => zV (rdS .sBulkheadlaw21Op) fun a1 => zV (z7 (.i .i64)) fun a2 => zV (rdS .sOwner) fun a3 => zP ((zw7 a0 a1 a2 a3), (z8 (zGh a0 a1 a2 a3)), []))
theorem zJg : zD 21 g21 := zj (zC Tryz.func21 (by kernel_rfl) rfl) (zg fun x0 a0 h0 => zg fun x1 a1 h1 => zg fun x2 a2 h2 => zg fun x3 a3 h3 => zi fun hb => (zP0 a0 a1 a2 a3 hb).ats (.cons (zM h0) (.cons (zM h1) (.cons (zn h2) (.cons (zM h3) .nil)))))
def g23 := zQ (zV (z7 (.sl (.i .u32))) fun a0 => zV (z7 (.sl (.i .u32))) fun a1 => zP ((zw8 a0 a1), (z8 (zGi a0 a1)), []))
theorem zJh : zD 23 g23 := zj (zC Tryz.func23 (by kernel_rfl) rfl) (zg fun x0 a0 h0 => zg fun x1 a1 h1 => zi fun hb => (zP1 a0 a1 hb).ats (.cons (zn h0) (.cons (zn h1) .nil)))
def g25 := zQ (zP (true, .agg [(ze sp25.frames), (ze sp25.major), (ze sp25.kernel), (ze sp25.room), .own 0, .own 1, .own 2], [.arr 86 (.sl .sWindow) sp25.cores, .arr 55 .sPartition sp25.partitions, .arr 108 .sChannel sp25.channels]))
theorem zJi : zD 25 g25 := zj (zC Tryz.func25 (by kernel_rfl) rfl) (zi fun hb => (zP2 ).ats .nil)
def g26 := zQ (zV (rdS .sConfig) fun a0 => zP ((zp1 a0), .agg [(ze ((zai a0).frames)), (ze ((zai a0).major)), (ze ((zai a0).kernel)), (ze ((zai a0).room)), .own 0, .own 1, .own 2], [.row 86 (.sl .sWindow) [(0, 150)] [] ((zai a0).cores), .row 55 .sPartition [(6, 136), (7, 57)] [] ((zai a0).partitions), .arr 108 .sChannel ((zai a0).channels)]))
theorem zJj : zD 26 g26 := zj (zC Tryz.func26 (by kernel_rfl) rfl) (zg fun x0 a0 h0 => zi fun hb => (zP3 a0 hb).ats (.cons (zM h0) .nil))
def g30 := zQ (zV (z7 (.i .i64)) fun a0 => zP ((zgf a0), .tup [.ref 0 0, (ze ((zew a0).2))], [.cells 112 [.own 1], .arr 44 (.i .u32) ((zew a0).1.words)]))
theorem zJn : zD 30 g30 := zj (zC Tryz.func30 (by kernel_rfl) rfl) (zg fun x0 a0 h0 => zi fun hb => (zP7 a0 hb).ats (.cons (zn h0) .nil))
def g31 := zQ (zV (z7 (.i .i64)) fun a0 => zP ((zgg a0), .tup [.ref 0 0, (ze ((zex a0).2))], [.cells 84 [.own 1], .arr 44 (.i .u32) ((zex a0).1.w)]))
theorem zJo : zD 31 g31 := zj (zC Tryz.func31 (by kernel_rfl) rfl) (zg fun x0 a0 h0 => zi fun hb => (zP8 a0 hb).ats (.cons (zn h0) .nil))
def g34 := zQ (zV (z7 (.p .sDuctDucts)) fun a0 => zV (z7 (.i .i64)) fun a1 => zP ((zgh a0 a1), .ifc 123 (.agg [(ze ((za5 a0 a1).ends.stage)), (ze ((za5 a0 a1).ends.words)), .own 0, (ze ((za5 a0 a1).depth))]), [.arr 3 (.i .i64) ((za5 a0 a1).ends.ports)]))
theorem zJr : zD 34 g34 := zj (zC Tryz.func34 (by kernel_rfl) rfl) (zg fun x0 a0 h0 => zg fun x1 a1 h1 => zi fun hb => (zQb a0 a1 hb).ats (.cons (zn h0) (.cons (zn h1) .nil)))
def zv7 := zQ (zV (z7 (.p .sDuctDucts)) fun a0 => zV (z7 (.i .i64)) fun a1 => zP ((zbH a0 a1), .ifc 167 (.agg [(ze ((z6 a0 a1).ends.stage)), (ze ((z6 a0 a1).ends.words)), .own 0]), [.arr 3 (.i .i64) ((z6 a0 a1).ends.ports)]))
theorem zva : zD 34 zv7 := zj (zC Tryz.func34 (by kernel_rfl) rfl) (zg fun x0 a0 h0 => zg fun x1 a1 h1 => zi fun hb => (zy1 a0 a1 hb).ats (.cons (zn h0) (.cons (zn h1) .nil)))
def g36 := zQ (zV (z7 (.sl (.i .u32))) fun a0 => zP ((zp2 a0), .own 0, [.arr 44 (.i .u32) (zzc a0)]))
theorem zJs : zD 36 g36 := zj (zC Tryz.func36 (by kernel_rfl) rfl) (zg fun x0 a0 h0 => zi fun hb => (zQc a0 hb).ats (.cons (zn h0) .nil))
def g38 := zQ (zV (z7 (.p .sDuctDucts)) fun a0 => zV (z7 (.i .i64)) fun a1 => zV (z7 (.i .i64)) fun a2 => zP ((zc6 a0 a1 a2), .tup [.agg [(ze ((zK a0 a1 a2).1.channel)), (z8 ((zK a0 a1 a2).1.source))], (z8 ((zK a0 a1 a2).2))], []))
theorem zJu : zD 38 g38 := zj (zC Tryz.func38 (by kernel_rfl) rfl) (zg fun x0 a0 h0 => zg fun x1 a1 h1 => zg fun x2 a2 h2 => zi fun hb => (zQe a0 a1 a2 hb).ats (.cons (zn h0) (.cons (zn h1) (.cons (zn h2) .nil))))
def g40 := zQ (zV (z7 (.p .sDuctDucts)) fun a0 => zV (z7 (.i .i64)) fun a1 => zV (z7 (.i .i64)) fun a2 => zV (z7 (.i .i64)) fun a3 => zP ((zkU a0 a1 a2 a3), (ze (zbO a0 a1 a2 a3)), []))
theorem zJw : zD 40 g40 := zj (zC Tryz.func40 (by kernel_rfl) rfl) (zg fun x0 a0 h0 => zg fun x1 a1 h1 => zg fun x2 a2 h2 => zg fun x3 a3 h3 => zi fun hb => (zQg a0 a1 a2 a3 hb).ats (.cons (zn h0) (.cons (zn h1) (.cons (zn h2) (.cons (zn h3) .nil)))))
def g62 := zQ (zV (rdS .sPartition) fun a0 => zV (rdS .sPartition) fun a1 => zP ((zxd a0 a1), (z8 (zGk a0 a1)), []))
theorem zJE : zD 62 g62 := zj (zC Tryz.func62 (by kernel_rfl) rfl) (zg fun x0 a0 h0 => zg fun x1 a1 h1 => zi fun hb => (zQo a0 a1 hb).ats (.cons (zM h0) (.cons (zM h1) .nil)))
def g63 := zQ (zV (z7 (.p .sMemMemory)) fun a0 => zP ((zp7 a0), (ze (zzf a0)), []))
theorem zJF : zD 63 g63 := zj (zC Tryz.func63 (by kernel_rfl) rfl) (zg fun x0 a0 h0 => zi fun hb => (zQp a0 hb).ats (.cons (zn h0) .nil))
def g66 := zQ (zV (rdS .sPartition) fun a0 => zV (z7 (.i .i64)) fun a1 => zP ((zxe a0 a1), (z8 (zGl a0 a1)), []))
theorem zJI : zD 66 g66 := zj (zC Tryz.func66 (by kernel_rfl) rfl) (zg fun x0 a0 h0 => zg fun x1 a1 h1 => zi fun hb => (zQs a0 a1 hb).ats (.cons (zM h0) (.cons (zn h1) .nil)))
def g68 := zQ (zV (rdS .sPartition) fun a0 => zV (z7 (.i .i64)) fun a1 => zV (z7 .b) fun a2 => zP ((zp9 a0 a1 a2), (ze (zzh a0 a1 a2)), []))
theorem zJK : zD 68 g68 := zj (zC Tryz.func68 (by kernel_rfl) rfl) (zg fun x0 a0 h0 => zg fun x1 a1 h1 => zg fun x2 a2 h2 => zi fun hb => (zQu a0 a1 a2 hb).ats (.cons (zM h0) (.cons (zn h1) (.cons (zn h2) .nil))))
def g70 := zQ (zV (rdS .sPartition) fun a0 => zV (z7 (.i .i64)) fun a1 => zP ((zxf a0 a1), (z8 (zGm a0 a1)), []))
theorem zJM : zD 70 g70 := zj (zC Tryz.func70 (by kernel_rfl) rfl) (zg fun x0 a0 h0 => zg fun x1 a1 h1 => zi fun hb => (zQw a0 a1 hb).ats (.cons (zM h0) (.cons (zn h1) .nil)))
def g85 := zQ (zV (z7 (.p .sMemMemory)) fun a0 => zV (z7 (.i .i64)) fun a1 => zV (z7 (.i .i64)) fun a2 => zP ((zft a0 a1 a2), (ze (zfg a0 a1 a2)), []))
theorem zJN : zD 85 g85 := zj (zC Tryz.func85 (by kernel_rfl) rfl) (zg fun x0 a0 h0 => zg fun x1 a1 h1 => zg fun x2 a2 h2 => zi fun hb => (zQx a0 a1 a2 hb).ats (.cons (zn h0) (.cons (zn h1) (.cons (zn h2) .nil))))
def g91 := zQ (zV (rdS .sConfig) fun a0 => zV (z7 (.i .i64)) fun a1 => zP ((zqa a0 a1), .tup [.own 0, .own 1], [.arr 208 .sLayoutEnd ((zud a0 a1).1), .arr 208 .sLayoutEnd ((zud a0 a1).2)]))
theorem zJR : zD 91 g91 := zj (zC Tryz.func91 (by kernel_rfl) rfl) (zg fun x0 a0 h0 => zg fun x1 a1 h1 => zi fun hb => (zQB a0 a1 hb).ats (.cons (zM h0) (.cons (zn h1) .nil)))
def g92 := zQ (zV (rdS .sChannel) fun a0 => zP (true, (ze (zoe a0)), []))
theorem zJS : zD 92 g92 := zj (zC Tryz.func92 (by kernel_rfl) rfl) (zg fun x0 a0 h0 => zi fun hb => (zQC a0).ats (.cons (zM h0) .nil))
def g94 := zQ (zV (rdS .sPartition) fun a0 => zP ((zxi a0), (ze (zGo a0)), []))
theorem zJU : zD 94 g94 := zj (zC Tryz.func94 (by kernel_rfl) rfl) (zg fun x0 a0 h0 => zi fun hb => (zQE a0 hb).ats (.cons (zM h0) .nil))
def g96 := zQ (zP (true, .agg [(ze sp96.first), (ze sp96.second)], []))
theorem zJW : zD 96 g96 := zj (zC Tryz.func96 (by kernel_rfl) rfl) (zi fun hb => (zQG ).ats .nil)
def g99 := zQ (zV (z7 (.i .i64)) fun a0 => zP (true, .agg [(ze ((zhv a0).first)), (ze ((zhv a0).second))], []))
theorem zJZ : zD 99 g99 := zj (zC Tryz.func99 (by kernel_rfl) rfl) (zg fun x0 a0 h0 => zi fun hb => (zQJ a0).ats (.cons (zn h0) .nil))
def g102 := zQ (zV (rdS .sConfig) fun a0 => zV (z7 (.i .i64)) fun a1 => zP ((zrF a0 a1), .tup [(ze ((zmW a0 a1).1)), (ze ((zmW a0 a1).2))], []))
theorem zEb : zD 102 g102 := zj (zC Tryz.func102 (by kernel_rfl) rfl) (zg fun x0 a0 h0 => zg fun x1 a1 h1 => zi fun hb => (zKT a0 a1 hb).ats (.cons (zM h0) (.cons (zn h1) .nil)))
def g103 := zQ (zV (z7 (.p .sMemMemory)) fun a0 => zV (rdS .sQueueForm) fun a1 => zP (true, (ze (zer a0 a1)), []))
theorem zEc : zD 103 g103 := zj (zC Tryz.func103 (by kernel_rfl) rfl) (zg fun x0 a0 h0 => zg fun x1 a1 h1 => zi fun hb => (zKU a0 a1).ats (.cons (zn h0) (.cons (zM h1) .nil)))
def g107 := zQ (zV (rdS .sChannel) fun a0 => zP (true, (ze (zkH a0)), []))
theorem zEg : zD 107 g107 := zj (zC Tryz.func107 (by kernel_rfl) rfl) (zg fun x0 a0 h0 => zi fun hb => (zKY a0).ats (.cons (zM h0) .nil))
def g125 := zQ (zV (z7 .b) fun a0 => zV (z7 (.i .i64)) fun a1 => zV (rdS .sWhere) fun a2 => zP (true, .agg [(ze ((zp a0 a1 a2).e)), (ze ((zp a0 a1 a2).where_.first)), (ze ((zp a0 a1 a2).where_.second))], []))
theorem zEi : zD 125 g125 := zj (zC Tryz.func125 (by kernel_rfl) rfl) (zg fun x0 a0 h0 => zg fun x1 a1 h1 => zg fun x2 a2 h2 => zi fun hb => (zKZ a0 a1 a2).ats (.cons (zn h0) (.cons (zn h1) (.cons (zM h2) .nil))))
def g126 := zQ (zV (z7 (.i .i64)) fun a0 => zV (z7 (.i .i64)) fun a1 => zV (z7 (.i .i64)) fun a2 => zP (true, (z8 (zW a0 a1 a2)), []))
theorem zEj : zD 126 g126 := zj (zC Tryz.func126 (by kernel_rfl) rfl) (zg fun x0 a0 h0 => zg fun x1 a1 h1 => zg fun x2 a2 h2 => zi fun hb => (zK0 a0 a1 a2).ats (.cons (zn h0) (.cons (zn h1) (.cons (zn h2) .nil))))
def g139 := zQ (zV (rdS .sConfig) fun a0 => zV (rdS .sPartition) fun a1 => zP ((zrK a0 a1), (z8 (zwv a0 a1)), []))
theorem zEw : zD 139 g139 := zj (zC Tryz.func139 (by kernel_rfl) rfl) (zg fun x0 a0 h0 => zg fun x1 a1 h1 => zi fun hb => (zK5 a0 a1 hb).ats (.cons (zM h0) (.cons (zM h1) .nil)))
def zIR (args : List AV) (hp : List Blk) : Option (Bool × AV × List Blk) :=
 match args, hp with
 | [a0, .ref 0 0], [.cells 3 [.v (.int .i64 y0)]] => (z7 (.i .i64) a0).bind fun b0 => some (true, (ze ((zbl b0 y0).1)), [.cells 3 [(ze ((zbl b0 y0).2))]])
 | _, _ => none
theorem zEx : zD 140 zIR := fun args hp b r hp' h hb => by
 unfold zIR at h
 split at h
 . simp only [Option.bind_eq_some_iff] at h
   obtain ⟨b0, h0, h⟩ := h
   cases h; exact ⟨zC Tryz.func140 (by kernel_rfl) rfl, Okay.ats (zK6 b0 _) (.cons (zn h0) (.cons (fun _ _ _ _ h => h) .nil))⟩
 . cases h
def g141 := zQ (zV (z7 (.i .i64)) fun a0 => zV (z7 (.i .i64)) fun a1 => zV (z7 (.i .i64)) fun a2 => zP (true, (z8 (zal a0 a1 a2)), []))
theorem zEy : zD 141 g141 := zj (zC Tryz.func141 (by kernel_rfl) rfl) (zg fun x0 a0 h0 => zg fun x1 a1 h1 => zg fun x2 a2 h2 => zi fun hb => (zK7 a0 a1 a2).ats (.cons (zn h0) (.cons (zn h1) (.cons (zn h2) .nil))))
def g145 := zQ (zV (rdS .sConfig) fun a0 => zV (z7 (.i .i64)) fun a1 => zP ((zdN a0 a1), .tup [(ze ((zaG a0 a1).1)), (ze ((zaG a0 a1).2))], []))
theorem zEC : zD 145 g145 := zj (zC Tryz.func145 (by kernel_rfl) rfl) (zg fun x0 a0 h0 => zg fun x1 a1 h1 => zi fun hb => (zLb a0 a1 hb).ats (.cons (zM h0) (.cons (zn h1) .nil)))
def g146 := zQ (zV (rdS .sConfig) fun a0 => zV (z7 (.i .i64)) fun a1 => zV (z7 (.i .i64)) fun a2 => zP ((zrO a0 a1 a2), (z8 (zwy a0 a1 a2)), []))
theorem zED : zD 146 g146 := zj (zC Tryz.func146 (by kernel_rfl) rfl) (zg fun x0 a0 h0 => zg fun x1 a1 h1 => zg fun x2 a2 h2 => zi fun hb => (zLc a0 a1 a2 hb).ats (.cons (zM h0) (.cons (zn h1) (.cons (zn h2) .nil))))
def g147 := zQ (zV (z7 (.i .i64)) fun a0 => zV (z7 (.i .i64)) fun a1 => zV (z7 (.i .i64)) fun a2 => zV (z7 (.i .i64)) fun a3 => zP (true, (z8 (zmX a0 a1 a2 a3)), []))
theorem zEE : zD 147 g147 := zj (zC Tryz.func147 (by kernel_rfl) rfl) (zg fun x0 a0 h0 => zg fun x1 a1 h1 => zg fun x2 a2 h2 => zg fun x3 a3 h3 => zi fun hb => (zLd a0 a1 a2 a3).ats (.cons (zn h0) (.cons (zn h1) (.cons (zn h2) (.cons (zn h3) .nil)))))
def g152 := zQ (zV (rdS .sQueueForm) fun a0 => zP (true, (ze (zig a0)), []))
theorem zEJ : zD 152 g152 := zj (zC Tryz.func152 (by kernel_rfl) rfl) (zg fun x0 a0 h0 => zi fun hb => (zLi a0).ats (.cons (zM h0) .nil))
def g156 := zQ (zV (z7 (.sl .sAdmitFound)) fun a0 => zP ((zaV a0), .agg [(ze ((zaN a0).e)), (ze ((zaN a0).where_.first)), (ze ((zaN a0).where_.second))], []))
theorem zEL : zD 156 g156 := zj (zC Tryz.func156 (by kernel_rfl) rfl) (zg fun x0 a0 h0 => zi fun hb => (zLk a0 hb).ats (.cons (zn h0) .nil))
def g158 := zQ (zV (z7 (.i .i64)) fun a0 => zP (true, .agg [(ze ((zA a0).first)), (ze ((zA a0).second))], []))
theorem zEN : zD 158 g158 := zj (zC Tryz.func158 (by kernel_rfl) rfl) (zg fun x0 a0 h0 => zi fun hb => (zLm a0).ats (.cons (zn h0) .nil))
def g161 := zQ (zV (z7 (.i .i64)) fun a0 => zV (z7 (.i .i64)) fun a1 => zP (true, .agg [(ze ((zam a0 a1).first)), (ze ((zam a0 a1).second))], []))
theorem zEQ : zD 161 g161 := zj (zC Tryz.func161 (by kernel_rfl) rfl) (zg fun x0 a0 h0 => zg fun x1 a1 h1 => zi fun hb => (zLp a0 a1).ats (.cons (zn h0) (.cons (zn h1) .nil)))
def g162 := zQ (zV (rdS .sConfig) fun a0 => zV (z7 (.i .i64)) fun a1 => zP ((zrS a0 a1), .tup [(ze ((zps a0 a1).1)), (ze ((zps a0 a1).2))], []))
theorem zER : zD 162 g162 := zj (zC Tryz.func162 (by kernel_rfl) rfl) (zg fun x0 a0 h0 => zg fun x1 a1 h1 => zi fun hb => (zLq a0 a1 hb).ats (.cons (zM h0) (.cons (zn h1) .nil)))
def g163 := zQ (zV (rdS .sConfig) fun a0 => zV (z7 (.i .i64)) fun a1 => zV (z7 (.i .i64)) fun a2 => zP ((znE a0 a1 a2), (z8 (zwA a0 a1 a2)), []))
theorem zES : zD 163 g163 := zj (zC Tryz.func163 (by kernel_rfl) rfl) (zg fun x0 a0 h0 => zg fun x1 a1 h1 => zg fun x2 a2 h2 => zi fun hb => (zLr a0 a1 a2 hb).ats (.cons (zM h0) (.cons (zn h1) (.cons (zn h2) .nil))))
def g164 := zQ (zV (z7 (.i .i64)) fun a0 => zV (z7 (.i .i64)) fun a1 => zV (z7 (.i .i64)) fun a2 => zV (z7 (.i .i64)) fun a3 => zP (true, (z8 (zpt a0 a1 a2 a3)), []))
theorem zET : zD 164 g164 := zj (zC Tryz.func164 (by kernel_rfl) rfl) (zg fun x0 a0 h0 => zg fun x1 a1 h1 => zg fun x2 a2 h2 => zg fun x3 a3 h3 => zi fun hb => (zLs a0 a1 a2 a3).ats (.cons (zn h0) (.cons (zn h1) (.cons (zn h2) (.cons (zn h3) .nil)))))
def g166 := zQ (zV (z7 .s) fun a0 => zP ((znF a0), (z8 (zt5 a0)), []))
theorem zEV : zD 166 g166 := zj (zC Tryz.func166 (by kernel_rfl) rfl) (zg fun x0 a0 h0 => zi fun hb => (zLu a0 hb).ats (.cons (zn h0) .nil))
def g168 := zQ (zV (z7 (.sl (.i .u32))) fun a0 => zP ((zrU a0), .tup [.sl (.i .u32) ((zt6 a0).1), (z8 ((zt6 a0).2))], []))
theorem zEX : zD 168 g168 := zj (zC Tryz.func168 (by kernel_rfl) rfl) (zg fun x0 a0 h0 => zi fun hb => (zLw a0 hb).ats (.cons (zn h0) .nil))
def g170 := zQ (zV (z7 .s) fun a0 => zP ((znG a0), (z8 (zt7 a0)), []))
theorem zEY : zD 170 g170 := zj (zC Tryz.func170 (by kernel_rfl) rfl) (zg fun x0 a0 h0 => zi fun hb => (zLx a0 hb).ats (.cons (zn h0) .nil))
def g204 := zQ (zV (z7 .b) fun a0 => zP (true, (avU (zpy a0)), []))
theorem zFg : zD 204 g204 := zj (zC Tryz.func204 (by kernel_rfl) rfl) (zg fun x0 a0 h0 => zi fun hb => (zLP a0).ats (.cons (zn h0) .nil))
def g209 := zQ (zV (z7 (.p .sMemMemory)) fun a0 => zV (z7 (.i .i64)) fun a1 => zP (true, (ze (zev a0 a1)), []))
theorem zFl : zD 209 g209 := zj (zC Tryz.func209 (by kernel_rfl) rfl) (zg fun x0 a0 h0 => zg fun x1 a1 h1 => zi fun hb => (zLU a0 a1).ats (.cons (zn h0) (.cons (zn h1) .nil)))
def g216 := zQ (zV (z7 (.i .i64)) fun a0 => zV (z7 (.i .i64)) fun a1 => zV (z7 (.sl (.i .i64))) fun a2 => zP ((zr9 a0 a1 a2), (z8 (zwB a0 a1 a2)), []))
theorem zFs : zD 216 g216 := zj (zC Tryz.func216 (by kernel_rfl) rfl) (zg fun x0 a0 h0 => zg fun x1 a1 h1 => zg fun x2 a2 h2 => zi fun hb => (zL1 a0 a1 a2 hb).ats (.cons (zn h0) (.cons (zn h1) (.cons (zn h2) .nil))))
def g217 := zQ (zV (z7 (.sl (.i .u32))) fun a0 => zP ((znM a0), (z8 (zub a0)), []))
theorem zFt : zD 217 g217 := zj (zC Tryz.func217 (by kernel_rfl) rfl) (zg fun x0 a0 h0 => zi fun hb => (zL2 a0 hb).ats (.cons (zn h0) .nil))
def g218 := zQ (zV (z7 (.sl (.i .u32))) fun a0 => zV (z7 (.i .i64)) fun a1 => zP ((zj6 a0 a1), .tup [.own 0, (z8 ((zii a0 a1).2))], [.arr 44 (.i .u32) ((zii a0 a1).1)]))
theorem zFu : zD 218 g218 := zj (zC Tryz.func218 (by kernel_rfl) rfl) (zg fun x0 a0 h0 => zg fun x1 a1 h1 => zi fun hb => (zL3 a0 a1 hb).ats (.cons (zn h0) (.cons (zn h1) .nil)))
noncomputable def GW0_ : Gam := zmr [(7, g7), (21, g21), (23, g23), (25, g25), (26, g26), (30, g30), (31, g31), (34, g34), (36, g36), (38, g38), (40, g40), (62, g62), (63, g63), (66, g66), (68, g68), (70, g70), (85, g85), (91, g91), (92, g92), (94, g94), (96, g96), (99, g99), (102, g102), (103, g103), (107, g107), (125, g125), (126, g126), (139, g139), (140, zIR), (141, g141), (145, g145), (146, g146), (147, g147), (152, g152), (156, g156), (158, g158), (161, g161), (162, g162), (163, g163), (164, g164), (166, g166), (168, g168), (170, g170), (204, g204), (209, g209), (216, g216), (217, g217), (218, g218)] G0
theorem zIi : GOk Pr GL GW0_ := zcG ⟨zPf, zJg, zJh, zJi, zJj, zJn, zJo, zJr, zJs, zJu, zJw, zJE, zJF, zJI, zJK, zJM, zJN, zJR, zJS, zJU, zJW, zJZ, zEb, zEc, zEg, zEi, zEj, zEw, zEx, zEy, zEC, zED, zEE, zEJ, zEL, zEN, zEQ, zER, zES, zET, zEV, zEX, zEY, zFg, zFl, zFs, zFt, zFu, trivial⟩ zy
noncomputable def GW0 : Gam := zFv [(34, zv7)] GW0_
theorem zaF : GOk Pr GL GW0 := zqu ⟨zva, trivial⟩ zIi
abbrev R29 := Bool × (List (List Window)) × (List Partition) × (List Channel)
def zGB (r : R29) : zY := ⟨(z8 r.1), [.row 86 (.sl .sWindow) [(0, 150)] [] r.2.1, .row 55 .sPartition [(6, 136), (7, 57)] [] r.2.2.1, .arr 108 .sChannel r.2.2.2]⟩
inductive L29 where | l0 (x0 : Bool) (x1 : Int) (x2 : List (List Window)) | l4 (x0 : Bool) (x3 : Int) (x1 : Int) (x4 : Int) (x5 : Bool) (x2 : List (List Window)) | l8 (x0 : Bool) (x2 : Int) (x1 : List (List Window)) (x3 : List Partition) | l12 (x3 : Bool) (x4 : Int) (x1 : Int) (x5 : Int) (x6 : Bool) (x0 : List (List Window)) (x2 : List Partition) | l20 (x0 : Bool) (x2 : Int) (x1 : List (List Window)) (x4 : List Partition) (x3 : List Channel) | l16 (x3 : Bool) (x4 : Int) (x2 : Int) (x5 : Int) (x6 : Bool) (x0 : List (List Window)) (x1 : List Partition)
def zPy : L29 -> Nat | .l0 _ _ _ => 0 | .l4 _ _ _ _ _ _ => 4 | .l8 _ _ _ _ => 8 | .l12 _ _ _ _ _ _ _ => 12 | .l20 _ _ _ _ _ => 20 | .l16 _ _ _ _ _ _ _ => 16
def H29 : z9 := ⟨fun n => [].any (Nat.beq n), zqx [(0, ⟨fgt [2, 3, 5, 6, 100, 101, 102, 103, 104, 121, 122, 123, 124, 125, 126, 127, 128, 129, 144, 145, 146, 147, 148, 149, 150, 151, 152, 172, 173, 174, 175, 176] 204 0, []⟩), (4, ⟨fgt [2, 3, 5, 6, 7, 39, 40, 41, 42, 43, 100, 101, 102, 103, 104, 121, 122, 123, 124, 125, 126, 127, 128, 129, 144, 145, 146, 147, 148, 149, 150, 151, 152, 172, 173, 174, 175, 176] 204 0, [(.box 2 4, .home)]⟩), (8, ⟨fgt [2, 3, 5, 8, 121, 122, 123, 124, 125, 126, 127, 128, 129, 172, 173, 174, 175, 176] 204 0, []⟩), (12, ⟨fgt [2, 3, 5, 8, 9, 100, 101, 102, 103, 104, 144, 145, 146, 147, 148, 149, 150, 151, 152, 172, 173, 174, 175, 176] 204 0, [(.box 2 5, .home)]⟩), (16, ⟨fgt [2, 3, 5, 8, 10, 100, 101, 102, 103, 104, 172, 173, 174, 175, 176] 204 0, [(.box 2 5, .home)]⟩), (20, ⟨fgt [2, 3, 5, 11] 204 0, []⟩)], [], G0, (fun e => match e with | 55 => [(6, 136), (7, 57)] | 86 => [(0, 150)] | _ => [])⟩
noncomputable def st29 (frames : Int) (major : Int) (kern : Int) (room : Int) (c : Config) (rowC : List (List Window)) (rowP : List Partition) (rowH : List Channel) : L29 -> St | .l0 x0 x1 x2 => ⟨mkE [(2, .ref 3 0), (3, .ref 4 0), (5, (z8 x0)), (6, (ze x1))] 204 0, [.row 86 (.sl .sWindow) [(0, 150)] [] x2, .row 55 .sPartition [(6, 136), (7, 57)] [] rowP, .arr 108 .sChannel rowH, .cells 26 [(ze frames), (ze major), (ze kern), (ze room), .own 0, .own 1, .own 2], .cells 26 (Ty.enc .sConfig c)], GL, 3, [], (fun e => match e with | 55 => [(6, 136), (7, 57)] | 86 => [(0, 150)] | _ => [])⟩ | .l4 x0 x3 x1 x4 x5 x2 => ⟨mkE [(2, .ref 3 0), (3, .ref 4 0), (5, (z8 x0)), (6, (ze x3)), (7, (ze x1)), (39, (ze x4)), (40, .ref 4 4), (41, .sl (.sl .sWindow) c.cores), (42, (ze c.cores.length)), (43, (z8 x5))] 204 0, [.row 86 (.sl .sWindow) [(0, 150)] [] x2, .row 55 .sPartition [(6, 136), (7, 57)] [] rowP, .arr 108 .sChannel rowH, .cells 26 [(ze frames), (ze major), (ze kern), (ze room), .own 0, .own 1, .own 2], .cells 26 (Ty.enc .sConfig c)], GL, 3, [], (fun e => match e with | 55 => [(6, 136), (7, 57)] | 86 => [(0, 150)] | _ => [])⟩ | .l8 x0 x2 x1 x3 => ⟨mkE [(2, .ref 3 0), (3, .ref 4 0), (5, (z8 x0)), (8, (ze x2))] 204 0, [.row 86 (.sl .sWindow) [(0, 150)] [] x1, .row 55 .sPartition [(6, 136), (7, 57)] [] x3, .arr 108 .sChannel rowH, .cells 26 [(ze frames), (ze major), (ze kern), (ze room), .own 0, .own 1, .own 2], .cells 26 (Ty.enc .sConfig c)], GL, 3, [], (fun e => match e with | 55 => [(6, 136), (7, 57)] | 86 => [(0, 150)] | _ => [])⟩ | .l12 x3 x4 x1 x5 x6 x0 x2 => ⟨mkE [(2, .ref 3 0), (3, .ref 4 0), (5, (z8 x3)), (8, (ze x4)), (9, (ze x1)), (100, (ze x5)), (101, .ref 4 5), (102, .sl .sPartition c.partitions), (103, (ze c.partitions.length)), (104, (z8 x6))] 204 0, [.row 86 (.sl .sWindow) [(0, 150)] [] x0, .row 55 .sPartition [(6, 136), (7, 57)] [] x2, .arr 108 .sChannel rowH, .cells 26 [(ze frames), (ze major), (ze kern), (ze room), .own 0, .own 1, .own 2], .cells 26 (Ty.enc .sConfig c)], GL, 3, [], (fun e => match e with | 55 => [(6, 136), (7, 57)] | 86 => [(0, 150)] | _ => [])⟩ | .l20 x0 x2 x1 x4 x3 => ⟨mkE [(2, .ref 3 0), (3, .ref 4 0), (5, (z8 x0)), (11, (ze x2))] 204 0, [.row 86 (.sl .sWindow) [(0, 150)] [] x1, .row 55 .sPartition [(6, 136), (7, 57)] [] x4, .arr 108 .sChannel x3, .cells 26 [(ze frames), (ze major), (ze kern), (ze room), .own 0, .own 1, .own 2], .cells 26 (Ty.enc .sConfig c)], GL, 3, [], (fun e => match e with | 55 => [(6, 136), (7, 57)] | 86 => [(0, 150)] | _ => [])⟩ | .l16 x3 x4 x2 x5 x6 x0 x1 => ⟨mkE [(2, .ref 3 0), (3, .ref 4 0), (5, (z8 x3)), (8, (ze x4)), (10, (ze x2)), (100, (ze x5)), (101, .ref 4 5), (102, .sl .sPartition c.partitions), (103, (ze c.partitions.length)), (104, (z8 x6))] 204 0, [.row 86 (.sl .sWindow) [(0, 150)] [] x0, .row 55 .sPartition [(6, 136), (7, 57)] [] x1, .arr 108 .sChannel rowH, .cells 26 [(ze frames), (ze major), (ze kern), (ze room), .own 0, .own 1, .own 2], .cells 26 (Ty.enc .sConfig c)], GL, 3, [], (fun e => match e with | 55 => [(6, 136), (7, 57)] | 86 => [(0, 150)] | _ => [])⟩
noncomputable def zcc {R : Type} (ret : R29 -> R) (frames : Int) (major : Int) (kern : Int) (room : Int) (c : Config) (rowC : List (List Window)) (rowP : List Partition) (rowH : List Channel) (j : L29 -> Option R) : L29 -> Option R | .l0 x0 x1 x2 =>let y1 := decide (x1 < c.cores.length); let y2 := zq x2 x1.toNat;  cond x0 (cond y1 (cond (zU x1 x2.length) ( cond (zU x1 c.cores.length) ( j (.l4 ((y2.length : Int) == (zq c.cores x1.toNat).length) x1 0 x1 y1 (List.set x2 x1.toNat y2))) none) none) (j (.l8 x0 0 x2 rowP))) (j (.l8 x0 0 x2 rowP)) | .l4 x0 x3 x1 x4 x5 x2 =>let y1 := zq x2 x3.toNat; let y2 := zq c.cores x3.toNat; let y3 := List.set x2 x3.toNat y1; let y4 := zaZ y1 x1.toNat; let y5 := zaZ y2 x1.toNat; let y6 := i64.wrap (x3 + 1); let y7 := zU x3 c.cores.length; let y8 := zq y3 x3.toNat;  cond x0 (cond y7 ( cond (decide (x1 < y2.length)) (cond (zU x3 x2.length) ( cond (zU x1 y1.length) ( cond y7 ( cond (zU x1 y2.length) ( cond (zU x3 x2.length) ( cond (zU x1 y8.length) ( j (.l4 (((y4.partition : Int) == (y5.partition)) && (((y4.usable : Int) == (y5.usable)) && (((y4.slack : Int) == (y5.slack)) && true))) x3 (i64.wrap (x1 + 1)) x4 x5 (List.set y3 x3.toNat (List.set y8 x1.toNat (⟨(-1), 1, 0⟩ : Window))))) none) none) none) none) none) none) (j (.l0 x0 y6 x2))) none) (j (.l0 x0 y6 x2)) | .l8 x0 x2 x1 x3 =>let y2 := za x3 x2.toNat; let y3 := decide (x2 < c.partitions.length); let y4 := za c.partitions x2.toNat; let y5 := List.set x3 x2.toNat y2; let y1 := za y5 x2.toNat;  cond x0 (cond y3 (cond (zU x2 x3.length) ( cond (zU x2 c.partitions.length) ( cond (zxd y2 y4) ( j (.l12 (zGk y2 y4) x2 0 x2 y3 x1 (List.set y5 x2.toNat (⟨y1.name, y1.entry, y1.action, y1.restarts, y1.inputs, y1.outputs, y2.regions, y1.ports⟩ : Partition)))) none) none) none) (j (.l20 x0 0 x1 x3 rowH))) (j (.l20 x0 0 x1 x3 rowH)) | .l12 x3 x4 x1 x5 x6 x0 x2 =>let y1 := za x2 x4.toNat;  cond x3 (cond (zU x4 c.partitions.length) ( cond (decide (x1 < ((za c.partitions x4.toNat).regions).length)) (cond (zU x4 x2.length) ( cond (zU x1 (y1.regions).length) ( j (.l12 x3 x4 (i64.wrap (x1 + 1)) x5 x6 x0 (List.set x2 x4.toNat (⟨y1.name, y1.entry, y1.action, y1.restarts, y1.inputs, y1.outputs, (List.set (y1.regions) x1.toNat (⟨200, 1, 0, 0⟩ : Region)), y1.ports⟩ : Partition)))) none) none) (j (.l16 x3 x4 0 x5 x6 x0 x2))) none) (j (.l16 x3 x4 0 x5 x6 x0 x2)) | .l20 x0 x2 x1 x4 x3 =>let y1 := zo c.channels x2.toNat; let y2 := zo x3 x2.toNat; let y3 := zU x2 c.channels.length;  cond x0 (cond (decide (x2 < c.channels.length)) (cond (zU x2 x3.length) ( cond y3 ( cond y3 ( cond (zU x2 x3.length) ( j (.l20 (((y2.kind : Int) == (y1.kind)) && (((y2.words : Int) == (y1.words)) && (((y2.depth : Int) == (y1.depth)) && true))) (i64.wrap (x2 + 1)) x1 x4 (List.set x3 x2.toNat (⟨(i64.wrap (3 - y1.kind)), 1, 1⟩ : Channel)))) none) none) none) none) (some (ret (x0, x1, x4, x3)))) (some (ret (x0, x1, x4, x3))) | .l16 x3 x4 x2 x5 x6 x0 x1 =>let y1 := za x1 x4.toNat; let y2 := (List.set x1 x4.toNat (⟨(ByteArray.mk #[115, 112, 111, 105, 108, 116]), 0, 0, 0, 0, 0, [], []⟩ : Partition)); let y3 := zU x4 x1.length; let y4 := i64.wrap (x4 + 1);  cond x3 (cond (zU x4 c.partitions.length) ( cond (decide (x2 < ((za c.partitions x4.toNat).ports).length)) (cond y3 ( cond (zU x2 (y1.ports).length) ( j (.l16 x3 x4 (i64.wrap (x2 + 1)) x5 x6 x0 (List.set x1 x4.toNat (⟨y1.name, y1.entry, y1.action, y1.restarts, y1.inputs, y1.outputs, y1.regions, (List.set (y1.ports) x2.toNat (⟨77, false⟩ : Port))⟩ : Partition)))) none) none) (cond y3 ( j (.l8 x3 y4 x0 y2)) none)) none) (cond y3 ( j (.l8 x3 y4 x0 y2)) none)
noncomputable def zor {R : Type} (ret : R29 -> R) (frames : Int) (major : Int) (kern : Int) (room : Int) (c : Config) (rowC : List (List Window)) (rowP : List Partition) (rowH : List Channel) (j : L29 -> Option R) : Option R := cond ((rowC.length : Int) == c.cores.length) (cond ((rowP.length : Int) == c.partitions.length) (j (.l0 ((rowH.length : Int) == c.channels.length) 0 rowC)) (j (.l0 false 0 rowC))) (j (.l0 false 0 rowC))
theorem ct29 (frames : Int) (major : Int) (kern : Int) (room : Int) (c : Config) (rowC : List (List Window)) (rowP : List Partition) (rowH : List Channel) (l : L29) : CT fun j => zcc id frames major kern room c rowC rowP rowH j l := by cases l <;> (dsimp only [zcc]; repeat (first | exact ctJ _ | exact ctK _ | apply ctC))
def zb6 (frames : Int) (major : Int) (kern : Int) (room : Int) (c : Config) (rowC : List (List Window)) (rowP : List Partition) (rowH : List Channel) : L29 -> Option R29 := lfp (zcc id frames major kern room c rowC rowP rowH)
theorem zbq (frames : Int) (major : Int) (kern : Int) (room : Int) (c : Config) (rowC : List (List Window)) (rowP : List Partition) (rowH : List Channel) (l : L29) : zb6 frames major kern room c rowC rowP rowH l = zcc id frames major kern room c rowC rowP rowH (zb6 frames major kern room c rowC rowP rowH) l := zI (ct29 frames major kern room c rowC rowP rowH) l
def zwK (frames : Int) (major : Int) (kern : Int) (room : Int) (c : Config) (rowC : List (List Window)) (rowP : List Partition) (rowH : List Channel) : Option R29 := zor id frames major kern room c rowC rowP rowH (zb6 frames major kern room c rowC rowP rowH)
def zm2 (frames : Int) (major : Int) (kern : Int) (room : Int) (c : Config) (rowC : List (List Window)) (rowP : List Partition) (rowH : List Channel) : R29 := (zwK frames major kern room c rowC rowP rowH).getD default
def zkR (frames : Int) (major : Int) (kern : Int) (room : Int) (c : Config) (rowC : List (List Window)) (rowP : List Partition) (rowH : List Channel) : Bool := (zwK frames major kern room c rowC rowP rowH).isSome
theorem zP6 (frames : Int) (major : Int) (kern : Int) (room : Int) (c : Config) (rowC : List (List Window)) (rowP : List Partition) (rowH : List Channel) (hc : zkR frames major kern room c rowC rowP rowH = true) : Okay Pr GL 29 [.agg [(ze frames), (ze major), (ze kern), (ze room), .own 0, .own 1, .own 2], .agg (Ty.enc .sConfig c)] [.row 86 (.sl .sWindow) [(0, 150)] [] rowC, .row 55 .sPartition [(6, 136), (7, 57)] [] rowP, .arr 108 .sChannel rowH] (zGB (zm2 frames major kern room c rowC rowP rowH)) := zH (H := H29) (bod := zcc id frames major kern room c rowC rowP rowH) (ent := zor id frames major kern room c rowC rowP rowH) (bodA := zcc zGB frames major kern room c rowC rowP rowH) (entA := zor zGB frames major kern room c rowC rowP rowH) zaF zy Tryz.func29 rfl (by kernel_rfl) zGB zPy (st29 frames major kern room c rowC rowP rowH) (fun J l => by cases l <;> kernel_rfl) (fun J => by kernel_rfl) (fun s l => by cases l <;> simp only [zcc, zb, zt, zu, id]) (fun s => by simp only [zor, zb, zt, zu, id]) (ct29 frames major kern room c rowC rowP rowH) (by dsimp only [zor]; repeat (first | exact ctJ _ | exact ctK _ | apply ctC)) hc
abbrev zyf := Bool
def zxz (r : zyf) : zY := ⟨(z8 r), []⟩
inductive zsx where | l0 (x0 : Int)
def zKv : zsx -> Nat | .l0 _ => 0
def H144 : z9 := htt [] [(0, ⟨fgt [1, 3] 39 0, []⟩)] []
noncomputable def zQ3 (p : Partition) : zsx -> St | .l0 x0 => stt [(1, .ref 0 0), (3, (ze x0))] 39 [.cells 55 (Ty.enc .sPartition p)] 0
noncomputable def zeQ {R : Type} (ret : zyf -> R) (p : Partition) (j : zsx -> Option R) : zsx -> Option R | .l0 x0 =>let y1 := zm p.regions x0.toNat; let y2 := i64.wrap (x0 + 1);  cond (decide (x0 < p.regions.length)) (cond (zU x0 p.regions.length) ( cond (zal (bop .quo .i64 p.entry 16) (y1.page) (i64.wrap ((i64.wrap (y1.page + y1.pages)) - 1))) (cond (!(((bop .and .i64 (y1.rights) 4) : Int) == 0)) (some (ret true)) (j (.l0 y2))) (j (.l0 y2))) none) (some (ret false))
noncomputable def zi2 {R : Type} (ret : zyf -> R) (p : Partition) (j : zsx -> Option R) : Option R := cond (!(zal p.entry 0 4095)) (some (ret false)) (j (.l0 0))
theorem zHG (p : Partition) (l : zsx) : CT fun j => zeQ id p j l := by cases l <;> (dsimp only [zeQ]; repeat (first | exact ctJ _ | exact ctK _ | apply ctC))
def zm9 (p : Partition) : zsx -> Option zyf := lfp (zeQ id p)
theorem zpG (p : Partition) (l : zsx) : zm9 p l = zeQ id p (zm9 p) l := zI (zHG p) l
def zq6 (p : Partition) : Option zyf := zi2 id p (zm9 p)
def zwx (p : Partition) : zyf := (zq6 p).getD default
def zrN (p : Partition) : Bool := (zq6 p).isSome
theorem zLa (p : Partition) (hc : zrN p = true) : Okay Pr GL 144 [.agg (Ty.enc .sPartition p)] [] (zxz (zwx p)) := zH (H := H144) (bod := zeQ id p) (ent := zi2 id p) (bodA := zeQ zxz p) (entA := zi2 zxz p) zaF zy Tryz.func144 rfl (by kernel_rfl) zxz zKv (zQ3 p) (fun J l => by cases l <;> kernel_rfl) (fun J => by kernel_rfl) (fun s l => by cases l <;> simp only [zeQ, zb, zt, zu, id]) (fun s => by simp only [zi2, zb, zt, zu, id]) (zHG p) (by dsimp only [zi2]; repeat (first | exact ctJ _ | exact ctK _ | apply ctC)) hc
abbrev zDq := Bool
def zCq (r : zDq) : zY := ⟨(z8 r), []⟩
noncomputable def zi9 {R : Type} (ret : zDq -> R) (c : Config) (g : Region) : Option R := cond (!(zal g.page 0 255)) (some (ret false)) (cond (!(zal g.pages 1 (i64.wrap (256 - g.page)))) (some (ret false)) (cond (decide ((g.frame : Int) >= 0)) (cond (decide ((g.pages : Int) <= (i64.wrap (c.frames - g.frame)))) (some (ret (zal g.rights 1 7))) (some (ret false))) (some (ret false))))
def zjR (c : Config) (g : Region) : Option zDq := zi9 id c g
def zpv (c : Config) (g : Region) : zDq := (zjR c g).getD default
theorem zGe (c : Config) (g : Region) : zjR c g = some (zpv c g) := zE (show (zjR c g).isSome = true by simp only [zjR, zi9, zG, Option.isSome_some, zT])
theorem zLv (c : Config) (g : Region) : Okay Pr GL 167 [.agg (Ty.enc .sConfig c), .agg (Ty.enc .sRegion g)] [] (zCq (zpv c g)) := zw (H := zar) (ent := zi9 id c g) (entA := zi9 zCq c g) zaF zy Tryz.func167 rfl (by kernel_rfl) zCq (fun J => by kernel_rfl) (by simp only [zi9, zb, zt, zu, id]) (show (zjR c g).isSome = true by rw [zGe]; rfl)
abbrev zDj := (List Int) × Int
def zCj (r : zDj) : zY := ⟨.tup [.own 0, (ze r.2)], [.arr 44 (.i .u32) r.1]⟩
def H149 : z9 := ⟨fun _ => false, fun _ => ⟨[], []⟩, [(.slot 0, .own 44 (.i .u32))], G0, zfX⟩
noncomputable def zlS {R : Type} (ret : zDj -> R) (m : (Option MemMemory)) (at_1 : Int) (n_2 : Int) : Option R := cond (zft m at_1 n_2) ( cond (!(((zfg m at_1 n_2) : Int) == 0)) (some (ret ([], (zfg m at_1 n_2)))) (cond (decide ((n_2 : Int) = n_2) && decide (0 <= n_2) && leB (n_2.toNat * 4) 140737488355328) ( cond m.isSome ( cond (inS at_1 (((m.getD default).words).length) ((m.getD default).words).length) ( some (ret ((zbP (List.replicate n_2.toNat (0 : Int)) 0 (List.take ((List.replicate n_2.toNat (0 : Int)).length) (((((m.getD default).words).take (((m.getD default).words).length : Int).toNat).drop at_1.toNat) : List Int))), 0))) none) none) none)) none
def zq8 (m : (Option MemMemory)) (at_1 : Int) (n_2 : Int) : Option zDj := zlS id m at_1 n_2
def zci (m : (Option MemMemory)) (at_1 : Int) (n_2 : Int) : zDj := (zq8 m at_1 n_2).getD default
def zc1 (m : (Option MemMemory)) (at_1 : Int) (n_2 : Int) : Bool := (zq8 m at_1 n_2).isSome
theorem zLf (m : (Option MemMemory)) (at_1 : Int) (n_2 : Int) (hc : zc1 m at_1 n_2 = true) : Okay Pr GL 149 [.op .sMemMemory m, (ze at_1), (ze n_2)] [] (zCj (zci m at_1 n_2)) := zw (H := H149) (ent := zlS id m at_1 n_2) (entA := zlS zCj m at_1 n_2) zaF zy Tryz.func149 rfl (by kernel_rfl) zCj (fun J => by kernel_rfl) (by simp only [zlS, zb, zt, zu, id]) hc
abbrev R69 := Int
def zMV (r : R69) : zY := ⟨(ze r), []⟩
noncomputable def zoG {R : Type} (ret : R69 -> R) (h_0 : Channel) : Option R := cond (((zkH h_0) : Int) == 0) (some (ret 0)) (cond ((h_0.kind : Int) == 1) (some (ret (i64.wrap (2 + h_0.words)))) (some (ret (i64.wrap (1 + (zkH h_0))))))
def zpW (h_0 : Channel) : Option R69 := zoG id h_0
def zvs (h_0 : Channel) : R69 := (zpW h_0).getD default
theorem zMo (h_0 : Channel) : zpW h_0 = some (zvs h_0) := zE (show (zpW h_0).isSome = true by simp only [zpW, zoG, zG, Option.isSome_some, zT])
theorem zQv (h_0 : Channel) : Okay Pr GL 69 [.agg (Ty.enc .sChannel h_0)] [] (zMV (zvs h_0)) := zw (H := zar) (ent := zoG id h_0) (entA := zoG zMV h_0) zaF zy Tryz.func69 rfl (by kernel_rfl) zMV (fun J => by kernel_rfl) (by simp only [zoG, zb, zt, zu, id]) (show (zpW h_0).isSome = true by rw [zMo]; rfl)
abbrev R54 := Int × MemMemory
def zGG (r : R54) : zY := ⟨(ze r.1), [.cells 112 [.own 1], .arr 44 (.i .u32) r.2.words]⟩
inductive L54 where | l9 (x0 : List Int)
def zPD : L54 -> Nat | .l9 _ => 9
def H54 : z9 := htt [4] [(9, ⟨fgt [7] 21 0, []⟩)] []
noncomputable def st54 (pl : Int) (word : Int) (ws : List Int) : L54 -> St | .l9 x0 => stt [(7, (ze (zfg (some (⟨ws⟩ : MemMemory)) pl 1)))] 21 [.cells 112 [.own 1], .arr 44 (.i .u32) x0] 2
noncomputable def zke {R : Type} (ret : R54 -> R) (pl : Int) (word : Int) (ws : List Int) (j : L54 -> Option R) : L54 -> Option R | .l9 x0 => some (ret ((zfg (some (⟨ws⟩ : MemMemory)) pl 1), (⟨x0⟩ : MemMemory)))
noncomputable def zox {R : Type} (ret : R54 -> R) (pl : Int) (word : Int) (ws : List Int) (j : L54 -> Option R) : Option R := cond (zft (some (⟨ws⟩ : MemMemory)) pl 1) ( cond (((zfg (some (⟨ws⟩ : MemMemory)) pl 1) : Int) == 0) (cond (zU pl ws.length) (j (.l9 (List.set ws pl.toNat word))) none) (j (.l9 ws))) none
theorem ct54 (pl : Int) (word : Int) (ws : List Int) (l : L54) : CT fun j => zke id pl word ws j l := by cases l <;> (dsimp only [zke]; repeat (first | exact ctJ _ | exact ctK _ | apply ctC))
def zBD (pl : Int) (word : Int) (ws : List Int) : L54 -> Option R54 := lfp (zke id pl word ws)
theorem zBE (pl : Int) (word : Int) (ws : List Int) (l : L54) : zBD pl word ws l = zke id pl word ws (zBD pl word ws) l := zI (ct54 pl word ws) l
def zwS (pl : Int) (word : Int) (ws : List Int) : Option R54 := zox id pl word ws (zBD pl word ws)
def zBB (pl : Int) (word : Int) (ws : List Int) : R54 := (zwS pl word ws).getD default
def zxb (pl : Int) (word : Int) (ws : List Int) : Bool := (zwS pl word ws).isSome
theorem zQj (pl : Int) (word : Int) (ws : List Int) (hc : zxb pl word ws = true) : Okay Pr GL 54 [.ref 0 0, (ze pl), (avU word)] [.cells 112 [.own 1], .arr 44 (.i .u32) ws] (zGG (zBB pl word ws)) := zH (H := H54) (bod := zke id pl word ws) (ent := zox id pl word ws) (bodA := zke zGG pl word ws) (entA := zox zGG pl word ws) zaF zy Tryz.func54 rfl (by kernel_rfl) zGG zPD (st54 pl word ws) (fun J l => by cases l <;> kernel_rfl) (fun J => by kernel_rfl) (fun s l => by cases l <;> simp only [zke, zb, zt, zu, id]) (fun s => by simp only [zox, zb, zt, zu, id]) (ct54 pl word ws) (by dsimp only [zox]; repeat (first | exact ctJ _ | exact ctK _ | apply ctC)) hc
abbrev zC8 := AdmitFound
def zB8 (r : zC8) : zY := ⟨.agg [(ze r.e), (ze r.where_.first), (ze r.where_.second)], []⟩
noncomputable def zlF {R : Type} (ret : zC8 -> R) (a : Config) : Option R := some (ret (zp (zW a.cores.length 1 4) 402 nowhere))
def znp (a : Config) : Option zC8 := zlF id a
def zpk (a : Config) : zC8 := (znp a).getD default
theorem zF3 (a : Config) : znp a = some (zpk a) := zE (show (znp a).isSome = true by simp only [znp, zlF, zG, Option.isSome_some, zT])
theorem zA2 (a : Config) : Okay Pr GL 128 [.op .sConfig (some a)] [] (zB8 (zpk a)) := zw (H := zar) (ent := zlF id a) (entA := zlF zB8 a) zaF zy Tryz.func128 rfl (by kernel_rfl) zB8 (fun J => by kernel_rfl) (by simp only [zlF, zb, zt, zu, id]) (show (znp a).isSome = true by rw [zF3]; rfl)
abbrev zC7 := AdmitFound
def zB7 (r : zC7) : zY := ⟨.agg [(ze r.e), (ze r.where_.first), (ze r.where_.second)], []⟩
noncomputable def zlE {R : Type} (ret : zC7 -> R) (a : Config) : Option R := some (ret (zp (zW a.major 1 16384) 401 nowhere))
def zno (a : Config) : Option zC7 := zlE id a
def zpj (a : Config) : zC7 := (zno a).getD default
theorem zF2 (a : Config) : zno a = some (zpj a) := zE (show (zno a).isSome = true by simp only [zno, zlE, zG, Option.isSome_some, zT])
theorem zA1 (a : Config) : Okay Pr GL 127 [.op .sConfig (some a)] [] (zB7 (zpj a)) := zw (H := zar) (ent := zlE id a) (entA := zlE zB7 a) zaF zy Tryz.func127 rfl (by kernel_rfl) zB7 (fun J => by kernel_rfl) (by simp only [zlE, zb, zt, zu, id]) (show (zno a).isSome = true by rw [zF2]; rfl)
abbrev zym := AdmitFound
def zxG (r : zym) : zY := ⟨.agg [(ze r.e), (ze r.where_.first), (ze r.where_.second)], []⟩
inductive zsE where | l0 (x0 : Int) | l4 (x0 : Int) | l8 (x1 : Int) (x2 : Int) (x3 : List Region) (x4 : Int) (x0 : Int)
def zKC : zsE -> Nat | .l0 _ => 0 | .l4 _ => 4 | .l8 _ _ _ _ _ => 8
def H159 : z9 := htt [] [(0, ⟨fgt [1, 2, 3, 6, 7, 68, 69, 70, 111, 112, 113, 116, 117, 118, 119, 120, 121, 122, 123, 124] 133 0, []⟩), (4, ⟨fgt [1, 2, 6, 7, 92, 93, 94, 111, 112, 113, 116, 117, 118, 119, 120, 121, 122, 123, 124] 133 0, []⟩), (8, ⟨fgt [1, 2, 6, 7, 10, 92, 93, 94, 100, 101, 102] 133 0, []⟩)] []
noncomputable def zRa (c : Config) (p : Int) (k : Int) : zsE -> St | .l0 x0 => stt [(1, (ze p)), (2, (ze k)), (3, .ref 0 0), (6, .ref 1 0), (7, .ref 2 0), (68, .sl .sRegion ((((za c.partitions p.toNat).regions).take k.toNat).drop 0)), (69, (ze (((((za c.partitions p.toNat).regions).take k.toNat).drop 0).length))), (70, (ze x0))] 133 [.cells 26 (Ty.enc .sConfig c), .cells 199 [(ze 0), (ze 0), (ze 0)], .cells 136 (Ty.enc .sRegion (zm ((za c.partitions p.toNat).regions) k.toNat))] 0 | .l4 x0 => stt [(1, (ze p)), (2, (ze k)), (6, .ref 0 0), (7, .ref 1 0), (92, .sl .sPartition ((c.partitions.take (i64.wrap (p + 1)).toNat).drop 0)), (93, (ze (((c.partitions.take (i64.wrap (p + 1)).toNat).drop 0).length))), (94, (ze x0))] 133 [.cells 199 [(ze 0), (ze 0), (ze 0)], .cells 136 (Ty.enc .sRegion (zm ((za c.partitions p.toNat).regions) k.toNat))] 0 | .l8 x1 x2 x3 x4 x0 => stt [(1, (ze p)), (2, (ze k)), (6, .ref 0 0), (7, .ref 1 0), (10, (ze x1)), (92, .sl .sPartition ((c.partitions.take (i64.wrap (p + 1)).toNat).drop 0)), (93, (ze (((c.partitions.take (i64.wrap (p + 1)).toNat).drop 0).length))), (94, (ze x2)), (100, .sl .sRegion x3), (101, (ze x4)), (102, (ze x0))] 133 [.cells 199 [(ze 0), (ze 0), (ze 0)], .cells 136 (Ty.enc .sRegion (zm ((za c.partitions p.toNat).regions) k.toNat))] 0
noncomputable def zcp {R : Type} (ret : zym -> R) (c : Config) (p : Int) (k : Int) (j : zsE -> Option R) : zsE -> Option R | .l0 x0 =>let y1 := (za c.partitions p.toNat).regions; let y2 := (y1.take k.toNat).drop 0; let y3 := zm y2 x0.toNat; let y4 := zm y1 k.toNat;  cond (decide (x0 < y2.length)) (cond (zU x0 y2.length) ( cond (zpt (y4.page) (y4.pages) (y3.page) (y3.pages)) (some (ret (⟨410, (⟨(zam p k).first, (zam p k).second⟩ : Where)⟩ : AdmitFound))) (j (.l0 (i64.wrap (x0 + 1))))) none) (cond (inS 0 (i64.wrap (p + 1)) c.partitions.length) (j (.l4 0)) none) | .l4 x0 =>let y1 := (c.partitions.take (i64.wrap (p + 1)).toNat).drop 0; let y2 := (za y1 x0.toNat).regions;  cond (decide (x0 < y1.length)) (cond (zU x0 y1.length) ( j (.l8 x0 x0 y2 (y2.length) 0)) none) (some (ret fine)) | .l8 x1 x2 x3 x4 x0 =>let y2 := (⟨411, (⟨(zam p k).first, (zam p k).second⟩ : Where)⟩ : AdmitFound); let y3 := zm ((za c.partitions p.toNat).regions) k.toNat; let y4 := i64.wrap (x0 + 1); let y5 := zm x3 x0.toNat; let y1 := zpt (y3.frame) (y3.pages) (y5.frame) (y5.pages);  cond (decide (x0 < x4)) (cond (zU x0 x3.length) ( cond (decide (x1 < p)) (cond y1 (some (ret y2)) (j (.l8 x1 x2 x3 x4 y4))) (cond (decide (x0 < k)) (cond y1 (some (ret y2)) (j (.l8 x1 x2 x3 x4 y4))) (j (.l8 x1 x2 x3 x4 y4)))) none) (j (.l4 (i64.wrap (x2 + 1))))
noncomputable def zi6 {R : Type} (ret : zym -> R) (c : Config) (p : Int) (k : Int) (j : zsE -> Option R) : Option R := cond (zU p c.partitions.length) ( cond (zU k ((za c.partitions p.toNat).regions).length) ( cond (!(zW ((zm ((za c.partitions p.toNat).regions) k.toNat).page) 0 255)) (some (ret (⟨409, (⟨(zam p k).first, (zam p k).second⟩ : Where)⟩ : AdmitFound))) (cond (!(zW ((zm ((za c.partitions p.toNat).regions) k.toNat).pages) 1 (i64.wrap (256 - (zm ((za c.partitions p.toNat).regions) k.toNat).page)))) (some (ret (⟨409, (⟨(zam p k).first, (zam p k).second⟩ : Where)⟩ : AdmitFound))) (cond (decide (((zm ((za c.partitions p.toNat).regions) k.toNat).frame : Int) < 0)) (some (ret (⟨409, (⟨(zam p k).first, (zam p k).second⟩ : Where)⟩ : AdmitFound))) (cond (decide (((zm ((za c.partitions p.toNat).regions) k.toNat).pages : Int) > (i64.wrap (c.frames - (zm ((za c.partitions p.toNat).regions) k.toNat).frame)))) (some (ret (⟨409, (⟨(zam p k).first, (zam p k).second⟩ : Where)⟩ : AdmitFound))) (cond (!(zW ((zm ((za c.partitions p.toNat).regions) k.toNat).rights) 1 7)) (some (ret (⟨409, (⟨(zam p k).first, (zam p k).second⟩ : Where)⟩ : AdmitFound))) (cond (zU p c.partitions.length) (cond (inS 0 k ((za c.partitions p.toNat).regions).length) (j (.l0 0)) none) none)))))) none) none
theorem zHN (c : Config) (p : Int) (k : Int) (l : zsE) : CT fun j => zcp id c p k j l := by cases l <;> (dsimp only [zcp]; repeat (first | exact ctJ _ | exact ctK _ | apply ctC))
def zcz (c : Config) (p : Int) (k : Int) : zsE -> Option zym := lfp (zcp id c p k)
theorem zdp (c : Config) (p : Int) (k : Int) (l : zsE) : zcz c p k l = zcp id c p k (zcz c p k) l := zI (zHN c p k) l
def zrc (c : Config) (p : Int) (k : Int) : Option zym := zi6 id c p k (zcz c p k)
def zmZ (c : Config) (p : Int) (k : Int) : zym := (zrc c p k).getD default
def zrR (c : Config) (p : Int) (k : Int) : Bool := (zrc c p k).isSome
theorem zLn (c : Config) (p : Int) (k : Int) (hc : zrR c p k = true) : Okay Pr GL 159 [.agg (Ty.enc .sConfig c), (ze p), (ze k)] [] (zxG (zmZ c p k)) := zH (H := H159) (bod := zcp id c p k) (ent := zi6 id c p k) (bodA := zcp zxG c p k) (entA := zi6 zxG c p k) zaF zy Tryz.func159 rfl (by kernel_rfl) zxG zKC (zRa c p k) (fun J l => by cases l <;> kernel_rfl) (fun J => by kernel_rfl) (fun s l => by cases l <;> simp only [zcp, zb, zt, zu, id]) (fun s => by simp only [zi6, zb, zt, zu, id]) (zHN c p k) (by dsimp only [zi6]; repeat (first | exact ctJ _ | exact ctK _ | apply ctC)) hc
abbrev R98 := Int
def zM2 (r : R98) : zY := ⟨(ze r), []⟩
noncomputable def ztu {R : Type} (ret : R98 -> R) (c : Config) (h_1 : Int) : Option R := cond (zU h_1 c.channels.length) ( cond (!(((zo c.channels h_1.toNat).kind : Int) == 2)) (cond (!(((zo c.channels h_1.toNat).kind : Int) == 1)) (some (ret 415)) (cond (!(zal ((zo c.channels h_1.toNat).words) 1 16)) (some (ret 415)) (cond (((zo c.channels h_1.toNat).kind : Int) == 2) (cond (!(zal ((zo c.channels h_1.toNat).depth) 1 8)) (some (ret 415)) (cond (!(((zo c.channels h_1.toNat).kind : Int) == 2)) (cond (!(((zo c.channels h_1.toNat).depth : Int) == 0)) (some (ret 415)) (cond (zdN c h_1) ( cond (!(((zaG c h_1).1 : Int) == 1)) (some (ret 416)) (cond (((zo c.channels h_1.toNat).kind : Int) == 2) (cond (!(((zaG c h_1).2 : Int) == 1)) (some (ret 417)) (cond (!(((zo c.channels h_1.toNat).kind : Int) == 2)) (cond (!(zal ((zaG c h_1).2) 1 4)) (some (ret 417)) (some (ret 0))) (some (ret 0)))) (cond (!(((zo c.channels h_1.toNat).kind : Int) == 2)) (cond (!(zal ((zaG c h_1).2) 1 4)) (some (ret 417)) (some (ret 0))) (some (ret 0))))) none)) (cond (zdN c h_1) ( cond (!(((zaG c h_1).1 : Int) == 1)) (some (ret 416)) (cond (((zo c.channels h_1.toNat).kind : Int) == 2) (cond (!(((zaG c h_1).2 : Int) == 1)) (some (ret 417)) (cond (!(((zo c.channels h_1.toNat).kind : Int) == 2)) (cond (!(zal ((zaG c h_1).2) 1 4)) (some (ret 417)) (some (ret 0))) (some (ret 0)))) (cond (!(((zo c.channels h_1.toNat).kind : Int) == 2)) (cond (!(zal ((zaG c h_1).2) 1 4)) (some (ret 417)) (some (ret 0))) (some (ret 0))))) none))) (cond (!(((zo c.channels h_1.toNat).kind : Int) == 2)) (cond (!(((zo c.channels h_1.toNat).depth : Int) == 0)) (some (ret 415)) (cond (zdN c h_1) ( cond (!(((zaG c h_1).1 : Int) == 1)) (some (ret 416)) (cond (((zo c.channels h_1.toNat).kind : Int) == 2) (cond (!(((zaG c h_1).2 : Int) == 1)) (some (ret 417)) (cond (!(((zo c.channels h_1.toNat).kind : Int) == 2)) (cond (!(zal ((zaG c h_1).2) 1 4)) (some (ret 417)) (some (ret 0))) (some (ret 0)))) (cond (!(((zo c.channels h_1.toNat).kind : Int) == 2)) (cond (!(zal ((zaG c h_1).2) 1 4)) (some (ret 417)) (some (ret 0))) (some (ret 0))))) none)) (cond (zdN c h_1) ( cond (!(((zaG c h_1).1 : Int) == 1)) (some (ret 416)) (cond (((zo c.channels h_1.toNat).kind : Int) == 2) (cond (!(((zaG c h_1).2 : Int) == 1)) (some (ret 417)) (cond (!(((zo c.channels h_1.toNat).kind : Int) == 2)) (cond (!(zal ((zaG c h_1).2) 1 4)) (some (ret 417)) (some (ret 0))) (some (ret 0)))) (cond (!(((zo c.channels h_1.toNat).kind : Int) == 2)) (cond (!(zal ((zaG c h_1).2) 1 4)) (some (ret 417)) (some (ret 0))) (some (ret 0))))) none))))) (cond (!(zal ((zo c.channels h_1.toNat).words) 1 16)) (some (ret 415)) (cond (((zo c.channels h_1.toNat).kind : Int) == 2) (cond (!(zal ((zo c.channels h_1.toNat).depth) 1 8)) (some (ret 415)) (cond (!(((zo c.channels h_1.toNat).kind : Int) == 2)) (cond (!(((zo c.channels h_1.toNat).depth : Int) == 0)) (some (ret 415)) (cond (zdN c h_1) ( cond (!(((zaG c h_1).1 : Int) == 1)) (some (ret 416)) (cond (((zo c.channels h_1.toNat).kind : Int) == 2) (cond (!(((zaG c h_1).2 : Int) == 1)) (some (ret 417)) (cond (!(((zo c.channels h_1.toNat).kind : Int) == 2)) (cond (!(zal ((zaG c h_1).2) 1 4)) (some (ret 417)) (some (ret 0))) (some (ret 0)))) (cond (!(((zo c.channels h_1.toNat).kind : Int) == 2)) (cond (!(zal ((zaG c h_1).2) 1 4)) (some (ret 417)) (some (ret 0))) (some (ret 0))))) none)) (cond (zdN c h_1) ( cond (!(((zaG c h_1).1 : Int) == 1)) (some (ret 416)) (cond (((zo c.channels h_1.toNat).kind : Int) == 2) (cond (!(((zaG c h_1).2 : Int) == 1)) (some (ret 417)) (cond (!(((zo c.channels h_1.toNat).kind : Int) == 2)) (cond (!(zal ((zaG c h_1).2) 1 4)) (some (ret 417)) (some (ret 0))) (some (ret 0)))) (cond (!(((zo c.channels h_1.toNat).kind : Int) == 2)) (cond (!(zal ((zaG c h_1).2) 1 4)) (some (ret 417)) (some (ret 0))) (some (ret 0))))) none))) (cond (!(((zo c.channels h_1.toNat).kind : Int) == 2)) (cond (!(((zo c.channels h_1.toNat).depth : Int) == 0)) (some (ret 415)) (cond (zdN c h_1) ( cond (!(((zaG c h_1).1 : Int) == 1)) (some (ret 416)) (cond (((zo c.channels h_1.toNat).kind : Int) == 2) (cond (!(((zaG c h_1).2 : Int) == 1)) (some (ret 417)) (cond (!(((zo c.channels h_1.toNat).kind : Int) == 2)) (cond (!(zal ((zaG c h_1).2) 1 4)) (some (ret 417)) (some (ret 0))) (some (ret 0)))) (cond (!(((zo c.channels h_1.toNat).kind : Int) == 2)) (cond (!(zal ((zaG c h_1).2) 1 4)) (some (ret 417)) (some (ret 0))) (some (ret 0))))) none)) (cond (zdN c h_1) ( cond (!(((zaG c h_1).1 : Int) == 1)) (some (ret 416)) (cond (((zo c.channels h_1.toNat).kind : Int) == 2) (cond (!(((zaG c h_1).2 : Int) == 1)) (some (ret 417)) (cond (!(((zo c.channels h_1.toNat).kind : Int) == 2)) (cond (!(zal ((zaG c h_1).2) 1 4)) (some (ret 417)) (some (ret 0))) (some (ret 0)))) (cond (!(((zo c.channels h_1.toNat).kind : Int) == 2)) (cond (!(zal ((zaG c h_1).2) 1 4)) (some (ret 417)) (some (ret 0))) (some (ret 0))))) none))))) none
def zw3 (c : Config) (h_1 : Int) : Option R98 := ztu id c h_1
def zzj (c : Config) (h_1 : Int) : R98 := (zw3 c h_1).getD default
def zxk (c : Config) (h_1 : Int) : Bool := (zw3 c h_1).isSome
theorem zQI (c : Config) (h_1 : Int) (hc : zxk c h_1 = true) : Okay Pr GL 98 [.agg (Ty.enc .sConfig c), (ze h_1)] [] (zM2 (zzj c h_1)) := zw (H := zar) (ent := ztu id c h_1) (entA := ztu zM2 c h_1) zaF zy Tryz.func98 rfl (by kernel_rfl) zM2 (fun J => by kernel_rfl) (by simp only [ztu, zb, zt, zu, id]) hc
abbrev R37 := Int × Int
def zMP (r : R37) : zY := ⟨.tup [(ze r.1), (ze r.2)], []⟩
noncomputable def zhK {R : Type} (ret : R37 -> R) (d : (Option DuctDucts)) (p : Int) (port : Int) : Option R := cond (zc6 d p port) ( cond d.isNone (some (ret (0, 0))) (cond (!((zK d p port).2)) (some (ret (0, 1))) (cond (!((zK d p port).1.source)) (some (ret (0, 2))) (cond d.isSome ( cond (zU ((zK d p port).1.channel) ((d.getD default).c.channels).length) (some (ret ((zo ((d.getD default).c.channels) (((zK d p port).1.channel).toNat)).words, 0))) none) none)))) none
def zdV (d : (Option DuctDucts)) (p : Int) (port : Int) : Option R37 := zhK id d p port
def zm3 (d : (Option DuctDucts)) (p : Int) (port : Int) : R37 := (zdV d p port).getD default
def zkT (d : (Option DuctDucts)) (p : Int) (port : Int) : Bool := (zdV d p port).isSome
theorem zQd (d : (Option DuctDucts)) (p : Int) (port : Int) (hc : zkT d p port = true) : Okay Pr GL 37 [.op .sDuctDucts d, (ze p), (ze port)] [] (zMP (zm3 d p port)) := zw (H := zar) (ent := zhK id d p port) (entA := zhK zMP d p port) zaF zy Tryz.func37 rfl (by kernel_rfl) zMP (fun J => by kernel_rfl) (by simp only [zhK, zb, zt, zu, id]) hc
abbrev zDO := (List Int) × Bool
def zCO (r : zDO) : zY := ⟨.tup [.own 0, (z8 r.2)], [.arr 44 (.i .u32) r.1]⟩
def H215 : z9 := ⟨fun _ => false, fun _ => ⟨[], []⟩, [(.slot 0, .own 44 (.i .u32))], G0, zfX⟩
noncomputable def zjm {R : Type} (ret : zDO -> R) (l_0 : (List Int)) (head : Int) : Option R := cond (znM l_0) ( cond (zub l_0) (some (ret ([], true))) (cond (zU 0 l_0.length) ( cond (!((zN l_0 0 : Int) == 1)) (some (ret ([], false))) (cond ((head : Int) == 3) (cond (zU 1 l_0.length) ( cond (decide ((zN l_0 1 : Int) > 1)) (some (ret ([], false))) (cond (zj6 l_0 head) (some (ret ((zii l_0 head).1, (zii l_0 head).2))) none)) none) (cond (zj6 l_0 head) (some (ret ((zii l_0 head).1, (zii l_0 head).2))) none))) none)) none
def zjY (l_0 : (List Int)) (head : Int) : Option zDO := zjm id l_0 head
def zf6 (l_0 : (List Int)) (head : Int) : zDO := (zjY l_0 head).getD default
def zhB (l_0 : (List Int)) (head : Int) : Bool := (zjY l_0 head).isSome
theorem zL0 (l_0 : (List Int)) (head : Int) (hc : zhB l_0 head = true) : Okay Pr GL 215 [.sl (.i .u32) l_0, (ze head)] [] (zCO (zf6 l_0 head)) := zw (H := H215) (ent := zjm id l_0 head) (entA := zjm zCO l_0 head) zaF zy Tryz.func215 rfl (by kernel_rfl) zCO (fun J => by kernel_rfl) (by simp only [zjm, zb, zt, zu, id]) hc
abbrev R32 := Int
def zMM (r : R32) : zY := ⟨(ze r), []⟩
noncomputable def zth {R : Type} (ret : R32 -> R) (d : (Option DuctDucts)) (m : (Option MemMemory)) : Option R := cond d.isNone (some (ret 3)) (cond m.isNone (some (ret 3)) (cond (zp7 m) ( cond d.isSome (cond (!(((zzf m) : Int) == (d.getD default).c.frames)) (some (ret 210)) (some (ret 0))) none) none))
def zwN (d : (Option DuctDucts)) (m : (Option MemMemory)) : Option R32 := zth id d m
def zjH (d : (Option DuctDucts)) (m : (Option MemMemory)) : R32 := (zwN d m).getD default
def zkS (d : (Option DuctDucts)) (m : (Option MemMemory)) : Bool := (zwN d m).isSome
theorem zP9 (d : (Option DuctDucts)) (m : (Option MemMemory)) (hc : zkS d m = true) : Okay Pr GL 32 [.op .sDuctDucts d, .op .sMemMemory m] [] (zMM (zjH d m)) := zw (H := zar) (ent := zth id d m) (entA := zth zMM d m) zaF zy Tryz.func32 rfl (by kernel_rfl) zMM (fun J => by kernel_rfl) (by simp only [zth, zb, zt, zu, id]) hc
abbrev zyj := Int × MemMemory
def zxD (r : zyj) : zY := ⟨(ze r.1), [.cells 112 [.own 1], .arr 44 (.i .u32) r.2.words]⟩
inductive zsB where | l9 (x0 : List Int)
def zKz : zsB -> Nat | .l9 _ => 9
def H153 : z9 := htt [4] [(9, ⟨fgt [7] 24 0, []⟩)] []
noncomputable def zQ7 (pl : Int) (words : (List Int)) (ws : List Int) : zsB -> St | .l9 x0 => stt [(7, (ze (zfg (some (⟨ws⟩ : MemMemory)) pl words.length)))] 24 [.cells 112 [.own 1], .arr 44 (.i .u32) x0] 2
noncomputable def zfB {R : Type} (ret : zyj -> R) (pl : Int) (words : (List Int)) (ws : List Int) (j : zsB -> Option R) : zsB -> Option R | .l9 x0 => some (ret ((zfg (some (⟨ws⟩ : MemMemory)) pl words.length), (⟨x0⟩ : MemMemory)))
noncomputable def zi4 {R : Type} (ret : zyj -> R) (pl : Int) (words : (List Int)) (ws : List Int) (j : zsB -> Option R) : Option R := cond (zft (some (⟨ws⟩ : MemMemory)) pl words.length) ( cond (((zfg (some (⟨ws⟩ : MemMemory)) pl words.length) : Int) == 0) (cond (inS pl ws.length ws.length) (j (.l9 (zbP ws pl.toNat (List.take ((ws.length : Int).toNat - pl.toNat) (words : List Int))))) none) (j (.l9 ws))) none
theorem zHK (pl : Int) (words : (List Int)) (ws : List Int) (l : zsB) : CT fun j => zfB id pl words ws j l := by cases l <;> (dsimp only [zfB]; repeat (first | exact ctJ _ | exact ctK _ | apply ctC))
def zvw (pl : Int) (words : (List Int)) (ws : List Int) : zsB -> Option zyj := lfp (zfB id pl words ws)
theorem zzn (pl : Int) (words : (List Int)) (ws : List Int) (l : zsB) : zvw pl words ws l = zfB id pl words ws (zvw pl words ws) l := zI (zHK pl words ws) l
def zra (pl : Int) (words : (List Int)) (ws : List Int) : Option zyj := zi4 id pl words ws (zvw pl words ws)
def zg3 (pl : Int) (words : (List Int)) (ws : List Int) : zyj := (zra pl words ws).getD default
def zgd (pl : Int) (words : (List Int)) (ws : List Int) : Bool := (zra pl words ws).isSome
theorem zLj (pl : Int) (words : (List Int)) (ws : List Int) (hc : zgd pl words ws = true) : Okay Pr GL 153 [.ref 0 0, (ze pl), .sl (.i .u32) words] [.cells 112 [.own 1], .arr 44 (.i .u32) ws] (zxD (zg3 pl words ws)) := zH (H := H153) (bod := zfB id pl words ws) (ent := zi4 id pl words ws) (bodA := zfB zxD pl words ws) (entA := zi4 zxD pl words ws) zaF zy Tryz.func153 rfl (by kernel_rfl) zxD zKz (zQ7 pl words ws) (fun J l => by cases l <;> kernel_rfl) (fun J => by kernel_rfl) (fun s l => by cases l <;> simp only [zfB, zb, zt, zu, id]) (fun s => by simp only [zi4, zb, zt, zu, id]) (zHK pl words ws) (by dsimp only [zi4]; repeat (first | exact ctJ _ | exact ctK _ | apply ctC)) hc
abbrev R33 := MemMemory
def zMN (r : R33) : zY := ⟨.ref 0 0, [.cells 112 [.own 1], .arr 44 (.i .u32) r.words]⟩
def H33 : z9 := ⟨fun _ => false, fun _ => ⟨[], []⟩, [(.slot 0, .fnc)], G0, zfX⟩
noncomputable def zti {R : Type} (ret : R33 -> R) (m : (Option MemMemory)) : Option R := cond m.isNone (none) (cond m.isSome (cond (zp2 ((m.getD default).words)) (some (ret (⟨(zzc ((m.getD default).words))⟩ : MemMemory))) none) none)
def zwO (m : (Option MemMemory)) : Option R33 := zti id m
def zGj (m : (Option MemMemory)) : R33 := (zwO m).getD default
def zw9 (m : (Option MemMemory)) : Bool := (zwO m).isSome
theorem zQa (m : (Option MemMemory)) (hc : zw9 m = true) : Okay Pr GL 33 [.op .sMemMemory m] [] (zMN (zGj m)) := zw (H := H33) (ent := zti id m) (entA := zti zMN m) zaF zy Tryz.func33 rfl (by kernel_rfl) zMN (fun J => by kernel_rfl) (by simp only [zti, zb, zt, zu, id]) hc
abbrev zDk := Int
def zCk (r : zDk) : zY := ⟨(ze r), []⟩
noncomputable def zlT {R : Type} (ret : zDk -> R) (f : QueueForm) (head : Int) : Option R := some (ret (i64.wrap (head + (i64.wrap (f.depth * (zig f))))))
def znv (f : QueueForm) (head : Int) : Option zDk := zlT id f head
def zbt (f : QueueForm) (head : Int) : zDk := (znv f head).getD default
theorem zF9 (f : QueueForm) (head : Int) : znv f head = some (zbt f head) := zE (show (znv f head).isSome = true by simp only [znv, zlT, zG, Option.isSome_some, zT])
theorem zLg (f : QueueForm) (head : Int) : Okay Pr GL 150 [.agg [(ze f.words), (ze f.depth)], (ze head)] [] (zCk (zbt f head)) := zw (H := zar) (ent := zlT id f head) (entA := zlT zCk f head) zaF zy Tryz.func150 rfl (by kernel_rfl) zCk (fun J => by kernel_rfl) (by simp only [zlT, zb, zt, zu, id]) (show (znv f head).isSome = true by rw [zF9]; rfl)
abbrev R90 := Int
def zMX (r : R90) : zY := ⟨.fn (.func 140) [] [.ref 0 0], [.cells 3 [(ze r)]]⟩
noncomputable def ztq {R : Type} (ret : R90 -> R) (at_0 : Int) : Option R := some (ret at_0)
def zut (at_0 : Int) : Option R90 := ztq id at_0
def zk4 (at_0 : Int) : R90 := (zut at_0).getD default
theorem zMp (at_0 : Int) : zut at_0 = some (zk4 at_0) := zE (show (zut at_0).isSome = true by simp only [zut, ztq, zG, Option.isSome_some, zT])
theorem zQA (at_0 : Int) : Okay Pr GL 90 [(ze at_0)] [] (zMX (zk4 at_0)) := zw (H := zar) (ent := ztq id at_0) (entA := ztq zMX at_0) zaF zy Tryz.func90 rfl (by kernel_rfl) zMX (fun J => by kernel_rfl) (by simp only [ztq, zb, zt, zu, id]) (show (zut at_0).isSome = true by rw [zMp]; rfl)
abbrev zx3 := Int × Where
def zxn (r : zx3) : zY := ⟨.tup [(ze r.1), .agg [(ze r.2.first), (ze r.2.second)]], []⟩
inductive zsl where | l0 (x0 : Int) (x1 : Int)
def zKj : zsl -> Nat | .l0 _ _ => 0
def H100 : z9 := htt [] [(0, ⟨fgt [1, 2, 5, 6, 7] 84 0, []⟩)] []
noncomputable def zQR (c : Config) (i : Int) : zsl -> St | .l0 x0 x1 => stt [(1, (ze i)), (2, .ref 0 0), (5, .ref 1 0), (6, (ze x0)), (7, (ze x1))] 84 [.cells 26 (Ty.enc .sConfig c), .cells 152 [(ze 0), (ze 0)]] 0
noncomputable def zeM {R : Type} (ret : zx3 -> R) (c : Config) (i : Int) (j : zsl -> Option R) : zsl -> Option R | .l0 x0 x1 =>let y2 := (⟨i, x1⟩ : Where); let y3 := zq c.cores i.toNat; let y1 := zaZ y3 x1.toNat; let y4 := y1.partition; let y5 := zU i c.cores.length;  cond y5 ( cond (decide (x1 < y3.length)) (cond y5 ( cond (zU x1 y3.length) ( cond (!(zal y4 (-1) (i64.wrap (c.partitions.length - 1)))) (some (ret (419, y2))) (cond (!(zal (y1.usable) 1 16384)) (some (ret (419, y2))) (cond (!(zal (y1.slack) 82 16384)) (some (ret (420, y2))) (cond (zrO c i y4) ( cond (zwy c i y4) (some (ret (422, y2))) (j (.l0 (i64.wrap (x0 + (i64.wrap (y1.usable + y1.slack)))) (i64.wrap (x1 + 1))))) none)))) none) none) (cond (!(x0 == c.major)) (some (ret (421, (zhv i)))) (some (ret (0, (⟨0, 0⟩ : Where)))))) none
noncomputable def ziO {R : Type} (ret : zx3 -> R) (c : Config) (i : Int) (j : zsl -> Option R) : Option R := cond (zU i c.cores.length) (cond (!(zal ((zq c.cores i.toNat).length) 1 16)) (some (ret (418, (zhv i)))) (j (.l0 0 0))) none
theorem zHu (c : Config) (i : Int) (l : zsl) : CT fun j => zeM id c i j l := by cases l <;> (dsimp only [zeM]; repeat (first | exact ctJ _ | exact ctK _ | apply ctC))
def zqM (c : Config) (i : Int) : zsl -> Option zx3 := lfp (zeM id c i)
theorem zpC (c : Config) (i : Int) (l : zsl) : zqM c i l = zeM id c i (zqM c i) l := zI (zHu c i) l
def zqT (c : Config) (i : Int) : Option zx3 := ziO id c i (zqM c i)
def zmV (c : Config) (i : Int) : zx3 := (zqT c i).getD default
def zrD (c : Config) (i : Int) : Bool := (zqT c i).isSome
theorem zKR (c : Config) (i : Int) (hc : zrD c i = true) : Okay Pr GL 100 [.agg (Ty.enc .sConfig c), (ze i)] [] (zxn (zmV c i)) := zH (H := H100) (bod := zeM id c i) (ent := ziO id c i) (bodA := zeM zxn c i) (entA := ziO zxn c i) zaF zy Tryz.func100 rfl (by kernel_rfl) zxn zKj (zQR c i) (fun J l => by cases l <;> kernel_rfl) (fun J => by kernel_rfl) (fun s l => by cases l <;> simp only [zeM, zb, zt, zu, id]) (fun s => by simp only [ziO, zb, zt, zu, id]) (zHu c i) (by dsimp only [ziO]; repeat (first | exact ctJ _ | exact ctK _ | apply ctC)) hc
abbrev zyi := (List (List Int)) × Bool
def zxC (r : zyi) : zY := ⟨.tup [.own 0, (z8 r.2)], [.arr 45 (.sl (.i .u32)) r.1]⟩
inductive zsA where | l0 (x0 : Int) (x1 : List (List Int)) | l27 (x1 : Int) (x2 : List Int) (x3 : Int) (x4 : Bool) (x5 : Int) (x6 : Bool) (x7 : Bool) (x0 : List (List Int))
def zKy : zsA -> Nat | .l0 _ _ => 0 | .l27 _ _ _ _ _ _ _ _ => 27
def H151 : z9 := htt [13] [(0, ⟨fgt [1, 2, 3, 4, 10, 28, 29] 75 0, [(.slot 10, .own 45 (.sl (.i .u32)))]⟩), (27, ⟨fgt [1, 2, 3, 4, 10, 28, 29, 57, 58, 59, 60, 61, 62, 63, 64] 75 0, [(.slot 10, .own 45 (.sl (.i .u32)))]⟩)] [(.slot 0, .own 45 (.sl (.i .u32)))]
noncomputable def zQ6 (f : QueueForm) (l_1 : (List Int)) (first : Int) (many : Int) : zsA -> St | .l0 x0 x1 => stt [(1, .sl (.i .u32) l_1), (2, (avU first)), (3, (avU many)), (4, .ref 0 0), (10, .own 1), (28, (ze f.depth)), (29, (ze x0))] 75 [.cells 169 [(ze f.words), (ze f.depth)], .arr 45 (.sl (.i .u32)) x1] 0 | .l27 x1 x2 x3 x4 x5 x6 x7 x0 => stt [(1, .sl (.i .u32) l_1), (2, (avU first)), (3, (avU many)), (4, .ref 0 0), (10, .own 1), (28, (ze f.depth)), (29, (ze x1)), (57, .sl (.i .u32) x2), (58, (ze x3)), (59, (z8 x4)), (60, (ze x5)), (61, (avU many)), (62, (ze (i64.wrap many))), (63, (z8 x6)), (64, (z8 x7))] 75 [.cells 169 [(ze f.words), (ze f.depth)], .arr 45 (.sl (.i .u32)) x0] 0
noncomputable def zdX {R : Type} (ret : zyi -> R) (f : QueueForm) (l_1 : (List Int)) (first : Int) (many : Int) (j : zsA -> Option R) : zsA -> Option R | .l0 x0 x1 =>let y2 := dv .rem .i64 (i64.wrap ((i64.wrap first) + x0)) f.depth; let y4 := decide (x0 < (i64.wrap many)); let y5 := i64.wrap ((i64.wrap (y2 + 1)) * (zig f)); let y7 := i64.wrap (y2 * (zig f)); let y1 := (l_1.take y5.toNat).drop y7.toNat; let y6 := zt6 y1; let y3 := (decide (((y6.1).length : Int) > 0)); let y8 := !(y3 == y4); let y9 := (x1 : List (List Int));  cond (decide (x0 < f.depth)) (cond (decide ((f.depth : Int) = 0)) (none) (cond (inS y7 y5 l_1.length) ( cond (zrU y1) ( cond (!(y6.2)) (some (ret ([], false))) (cond y8 (some (ret ([], false))) (cond y3 (cond (leB ((y9.length + ([y6.1] : List (List Int)).length) * 24) 140737488355328) ( j (.l27 x0 (y6.1) ((y6.1).length) y3 x0 y4 y8 (y9 ++ [y6.1]))) none) (j (.l27 x0 (y6.1) ((y6.1).length) y3 x0 y4 y8 x1))))) none) none)) (some (ret (x1, true))) | .l27 x1 x2 x3 x4 x5 x6 x7 x0 => j (.l0 (i64.wrap (x1 + 1)) x0)
noncomputable def zi3 {R : Type} (ret : zyi -> R) (f : QueueForm) (l_1 : (List Int)) (first : Int) (many : Int) (j : zsA -> Option R) : Option R := cond (decide ((many : Int) > (u32.wrap f.depth))) (some (ret ([], false))) (cond (decide ((first : Int) >= (u32.wrap f.depth))) (some (ret ([], false))) (j (.l0 0 [])))
theorem zHJ (f : QueueForm) (l_1 : (List Int)) (first : Int) (many : Int) (l : zsA) : CT fun j => zdX id f l_1 first many j l := by cases l <;> (dsimp only [zdX]; repeat (first | exact ctJ _ | exact ctK _ | apply ctC))
def zf8 (f : QueueForm) (l_1 : (List Int)) (first : Int) (many : Int) : zsA -> Option zyi := lfp (zdX id f l_1 first many)
theorem zjL (f : QueueForm) (l_1 : (List Int)) (first : Int) (many : Int) (l : zsA) : zf8 f l_1 first many l = zdX id f l_1 first many (zf8 f l_1 first many) l := zI (zHJ f l_1 first many) l
def zq9 (f : QueueForm) (l_1 : (List Int)) (first : Int) (many : Int) : Option zyi := zi3 id f l_1 first many (zf8 f l_1 first many)
def zmY (f : QueueForm) (l_1 : (List Int)) (first : Int) (many : Int) : zyi := (zq9 f l_1 first many).getD default
def zj1 (f : QueueForm) (l_1 : (List Int)) (first : Int) (many : Int) : Bool := (zq9 f l_1 first many).isSome
theorem zLh (f : QueueForm) (l_1 : (List Int)) (first : Int) (many : Int) (hc : zj1 f l_1 first many = true) : Okay Pr GL 151 [.agg [(ze f.words), (ze f.depth)], .sl (.i .u32) l_1, (avU first), (avU many)] [] (zxC (zmY f l_1 first many)) := zH (H := H151) (bod := zdX id f l_1 first many) (ent := zi3 id f l_1 first many) (bodA := zdX zxC f l_1 first many) (entA := zi3 zxC f l_1 first many) zaF zy Tryz.func151 rfl (by kernel_rfl) zxC zKy (zQ6 f l_1 first many) (fun J l => by cases l <;> kernel_rfl) (fun J => by kernel_rfl) (fun s l => by cases l <;> simp only [zdX, zb, zt, zu, id]) (fun s => by simp only [zi3, zb, zt, zu, id]) (zHJ f l_1 first many) (by dsimp only [zi3]; repeat (first | exact ctJ _ | exact ctK _ | apply ctC)) hc
abbrev zx9 := AdmitFound
def zxt (r : zx9) : zY := ⟨.agg [(ze r.e), (ze r.where_.first), (ze r.where_.second)], []⟩
inductive zsr where | l11 (x0 : Bool) (x1 : Int)
def zKp : zsr -> Nat | .l11 _ _ => 11
def H134 : z9 := htt [5] [(11, ⟨fgt [1, 2, 4, 5, 6, 7, 34, 35, 36, 39] 57 0, []⟩)] []
noncomputable def zQX (c : Config) (h_1 : Int) : zsr -> St | .l11 x0 x1 => stt [(1, (ze h_1)), (2, .ref 0 0), (4, .ref 1 0), (5, .ref 2 0), (6, (z8 x0)), (7, (ze x1))] 57 [.cells 26 (Ty.enc .sConfig c), .cells 199 [(ze 0), (ze 0), (ze 0)], .cells 108 (Ty.enc .sChannel (zo c.channels h_1.toNat))] 0
noncomputable def zfA {R : Type} (ret : zx9 -> R) (c : Config) (h_1 : Int) (j : zsr -> Option R) : zsr -> Option R | .l11 x0 x1 =>let y4 := zA h_1; let y1 := (zp (((zps c h_1).1 : Int) == 1) 416 y4); let y2 := zp (zW ((zps c h_1).2) 1 x1) 417 y4; let y3 := zp false 415 y4; let y5 := zo c.channels h_1.toNat; let y6 := zaV [y3, y1, y2]; let y7 := zaN [y3, y1, y2];  cond (zrS c h_1) ( cond (zW (y5.kind) 1 2) (cond (zW (y5.words) 1 16) (cond (zaV [(zp x0 415 y4), y1, y2]) ( some (ret (zaN [(zp x0 415 y4), y1, y2]))) none) (cond y6 ( some (ret y7)) none)) (cond y6 ( some (ret y7)) none)) none
noncomputable def ziW {R : Type} (ret : zx9 -> R) (c : Config) (h_1 : Int) (j : zsr -> Option R) : Option R := cond (zU h_1 c.channels.length) ( cond (((zo c.channels h_1.toNat).kind : Int) == 2) (j (.l11 (zW ((zo c.channels h_1.toNat).depth) 1 8) 1)) (j (.l11 (((zo c.channels h_1.toNat).depth : Int) == 0) 4))) none
theorem zHA (c : Config) (h_1 : Int) (l : zsr) : CT fun j => zfA id c h_1 j l := by cases l <;> (dsimp only [zfA]; repeat (first | exact ctJ _ | exact ctK _ | apply ctC))
def zjJ (c : Config) (h_1 : Int) : zsr -> Option zx9 := lfp (zfA id c h_1)
theorem zzm (c : Config) (h_1 : Int) (l : zsr) : zjJ c h_1 l = zfA id c h_1 (zjJ c h_1) l := zI (zHA c h_1) l
def zq0 (c : Config) (h_1 : Int) : Option zx9 := ziW id c h_1 (zjJ c h_1)
def zpo (c : Config) (h_1 : Int) : zx9 := (zq0 c h_1).getD default
def zrH (c : Config) (h_1 : Int) : Bool := (zq0 c h_1).isSome
theorem zK2 (c : Config) (h_1 : Int) (hc : zrH c h_1 = true) : Okay Pr GL 134 [.agg (Ty.enc .sConfig c), (ze h_1)] [] (zxt (zpo c h_1)) := zH (H := H134) (bod := zfA id c h_1) (ent := ziW id c h_1) (bodA := zfA zxt c h_1) (entA := ziW zxt c h_1) zaF zy Tryz.func134 rfl (by kernel_rfl) zxt zKp (zQX c h_1) (fun J l => by cases l <;> kernel_rfl) (fun J => by kernel_rfl) (fun s l => by cases l <;> simp only [zfA, zb, zt, zu, id]) (fun s => by simp only [ziW, zb, zt, zu, id]) (zHA c h_1) (by dsimp only [ziW]; repeat (first | exact ctJ _ | exact ctK _ | apply ctC)) hc
abbrev zyn := Bool
def zxH (r : zyn) : zY := ⟨(z8 r), []⟩
inductive zsF where | l0 (x0 : Int)
def zKD : zsF -> Nat | .l0 _ => 0
def H160 : z9 := htt [] [(0, ⟨fgt [1, 6, 7, 8] 31 0, []⟩)] []
noncomputable def zRb (x : Partition) : zsF -> St | .l0 x0 => stt [(1, .ref 0 0), (6, .sl .sRegion x.regions), (7, (ze x.regions.length)), (8, (ze x0))] 31 [.cells 55 (Ty.enc .sPartition x)] 0
noncomputable def zeT {R : Type} (ret : zyn -> R) (x : Partition) (j : zsF -> Option R) : zsF -> Option R | .l0 x0 =>let y1 := zm x.regions x0.toNat; let y2 := i64.wrap (x0 + 1);  cond (decide (x0 < x.regions.length)) (cond (zU x0 x.regions.length) ( cond (zW (bop .quo .i64 x.entry 16) (y1.page) (i64.wrap ((i64.wrap (y1.page + y1.pages)) - 1))) (cond (!(((bop .and .i64 (y1.rights) 4) : Int) == 0)) (some (ret true)) (j (.l0 y2))) (j (.l0 y2))) none) (some (ret false))
noncomputable def zlY {R : Type} (ret : zyn -> R) (x : Partition) (j : zsF -> Option R) : Option R := j (.l0 0)
theorem zHO (x : Partition) (l : zsF) : CT fun j => zeT id x j l := by cases l <;> (dsimp only [zeT]; repeat (first | exact ctJ _ | exact ctK _ | apply ctC))
def zna (x : Partition) : zsF -> Option zyn := lfp (zeT id x)
theorem zpJ (x : Partition) (l : zsF) : zna x l = zeT id x (zna x) l := zI (zHO x) l
def zvC (x : Partition) : Option zyn := zlY id x (zna x)
def zwz (x : Partition) : zyn := (zvC x).getD default
def znD (x : Partition) : Bool := (zvC x).isSome
theorem zLo (x : Partition) (hc : znD x = true) : Okay Pr GL 160 [.agg (Ty.enc .sPartition x)] [] (zxH (zwz x)) := zH (H := H160) (bod := zeT id x) (ent := zlY id x) (bodA := zeT zxH x) (entA := zlY zxH x) zaF zy Tryz.func160 rfl (by kernel_rfl) zxH zKD (zRb x) (fun J l => by cases l <;> kernel_rfl) (fun J => by kernel_rfl) (fun s l => by cases l <;> simp only [zeT, zb, zt, zu, id]) (fun s => by simp only [zlY, zb, zt, zu, id]) (zHO x) (by dsimp only [zlY]; repeat (first | exact ctJ _ | exact ctK _ | apply ctC)) hc
abbrev zyx := Int × MemMemory
def zxR (r : zyx) : zY := ⟨(ze r.1), [.cells 112 [.own 1], .arr 44 (.i .u32) r.2.words]⟩
inductive zsP where | l0 (x0 : Int) (x1 : List Int)
def zKN : zsP -> Nat | .l0 _ _ => 0
def H214 : z9 := htt [] [(0, ⟨fgt [0, 1, 3, 18, 19] 32 0, []⟩)] []
noncomputable def zRl (pl : Int) (many : Int) (word : Int) (ws : List Int) : zsP -> St | .l0 x0 x1 => stt [(0, .ref 0 0), (1, (ze pl)), (3, (avU word)), (18, (ze many)), (19, (ze x0))] 32 [.cells 112 [.own 1], .arr 44 (.i .u32) x1] 2
noncomputable def zeX {R : Type} (ret : zyx -> R) (pl : Int) (many : Int) (word : Int) (ws : List Int) (j : zsP -> Option R) : zsP -> Option R | .l0 x0 x1 =>let y1 := i64.wrap (pl + x0);  cond (decide (x0 < many)) (cond (zU y1 x1.length) (j (.l0 (i64.wrap (x0 + 1)) (List.set x1 (y1.toNat) word))) none) (some (ret (0, (⟨x1⟩ : MemMemory))))
noncomputable def zjl {R : Type} (ret : zyx -> R) (pl : Int) (many : Int) (word : Int) (ws : List Int) (j : zsP -> Option R) : Option R := cond (zft (some (⟨ws⟩ : MemMemory)) pl many) ( cond (!(((zfg (some (⟨ws⟩ : MemMemory)) pl many) : Int) == 0)) (some (ret ((zfg (some (⟨ws⟩ : MemMemory)) pl many), (⟨ws⟩ : MemMemory)))) (j (.l0 0 ws))) none
theorem zHY (pl : Int) (many : Int) (word : Int) (ws : List Int) (l : zsP) : CT fun j => zeX id pl many word ws j l := by cases l <;> (dsimp only [zeX]; repeat (first | exact ctJ _ | exact ctK _ | apply ctC))
def zhx (pl : Int) (many : Int) (word : Int) (ws : List Int) : zsP -> Option zyx := lfp (zeX id pl many word ws)
theorem zpN (pl : Int) (many : Int) (word : Int) (ws : List Int) (l : zsP) : zhx pl many word ws l = zeX id pl many word ws (zhx pl many word ws) l := zI (zHY pl many word ws) l
def zrB (pl : Int) (many : Int) (word : Int) (ws : List Int) : Option zyx := zjl id pl many word ws (zhx pl many word ws)
def zua (pl : Int) (many : Int) (word : Int) (ws : List Int) : zyx := (zrB pl many word ws).getD default
def zr8 (pl : Int) (many : Int) (word : Int) (ws : List Int) : Bool := (zrB pl many word ws).isSome
theorem zLZ (pl : Int) (many : Int) (word : Int) (ws : List Int) (hc : zr8 pl many word ws = true) : Okay Pr GL 214 [.ref 0 0, (ze pl), (ze many), (avU word)] [.cells 112 [.own 1], .arr 44 (.i .u32) ws] (zxR (zua pl many word ws)) := zH (H := H214) (bod := zeX id pl many word ws) (ent := zjl id pl many word ws) (bodA := zeX zxR pl many word ws) (entA := zjl zxR pl many word ws) zaF zy Tryz.func214 rfl (by kernel_rfl) zxR zKN (zRl pl many word ws) (fun J l => by cases l <;> kernel_rfl) (fun J => by kernel_rfl) (fun s l => by cases l <;> simp only [zeX, zb, zt, zu, id]) (fun s => by simp only [zjl, zb, zt, zu, id]) (zHY pl many word ws) (by dsimp only [zjl]; repeat (first | exact ctJ _ | exact ctK _ | apply ctC)) hc
abbrev zDM := Int × Int
def zCM (r : zDM) : zY := ⟨.tup [(avU r.1), (ze r.2)], []⟩
noncomputable def zmk {R : Type} (ret : zDM -> R) (m : (Option MemMemory)) (at_1 : Int) : Option R := cond (zft m at_1 1) ( cond (!(((zfg m at_1 1) : Int) == 0)) (some (ret (0, (zfg m at_1 1)))) (cond m.isSome (cond (zU at_1 ((m.getD default).words).length) (some (ret (zN ((m.getD default).words) at_1.toNat, 0))) none) none)) none
def zry (m : (Option MemMemory)) (at_1 : Int) : Option zDM := zmk id m at_1
def zpB (m : (Option MemMemory)) (at_1 : Int) : zDM := (zry m at_1).getD default
def znL (m : (Option MemMemory)) (at_1 : Int) : Bool := (zry m at_1).isSome
theorem zLW (m : (Option MemMemory)) (at_1 : Int) (hc : znL m at_1 = true) : Okay Pr GL 211 [.op .sMemMemory m, (ze at_1)] [] (zCM (zpB m at_1)) := zw (H := zar) (ent := zmk id m at_1) (entA := zmk zCM m at_1) zaF zy Tryz.func211 rfl (by kernel_rfl) zCM (fun J => by kernel_rfl) (by simp only [zmk, zb, zt, zu, id]) hc
abbrev R67 := Int
def zMU (r : R67) : zY := ⟨(ze r), []⟩
noncomputable def zoF {R : Type} (ret : R67 -> R) (h_0 : Channel) : Option R := cond (((zkH h_0) : Int) == 0) (some (ret 0)) (some (ret (i64.wrap (3 + (zkH h_0)))))
def zpV (h_0 : Channel) : Option R67 := zoF id h_0
def zvr (h_0 : Channel) : R67 := (zpV h_0).getD default
theorem zMn (h_0 : Channel) : zpV h_0 = some (zvr h_0) := zE (show (zpV h_0).isSome = true by simp only [zpV, zoF, zG, Option.isSome_some, zT])
theorem zQt (h_0 : Channel) : Okay Pr GL 67 [.agg (Ty.enc .sChannel h_0)] [] (zMU (zvr h_0)) := zw (H := zar) (ent := zoF id h_0) (entA := zoF zMU h_0) zaF zy Tryz.func67 rfl (by kernel_rfl) zMU (fun J => by kernel_rfl) (by simp only [zoF, zb, zt, zu, id]) (show (zpV h_0).isSome = true by rw [zMn]; rfl)
abbrev R15 := (List Int)
def zMC (r : R15) : zY := ⟨.own 0, [.arr 44 (.i .u32) r]⟩
def H15 : z9 := ⟨fun _ => false, fun _ => ⟨[], []⟩, [(.slot 0, .own 44 (.i .u32))], G0, zfX⟩
noncomputable def zta {R : Type} (ret : R15 -> R) (m : (Option MemMemory)) : Option R := cond m.isNone (some (ret [])) (cond m.isSome (cond (zp2 ((m.getD default).words)) (some (ret (zzc ((m.getD default).words)))) none) none)
def zwD (m : (Option MemMemory)) : Option R15 := zta id m
def zzb (m : (Option MemMemory)) : R15 := (zwD m).getD default
def zuw (m : (Option MemMemory)) : Bool := (zwD m).isSome
theorem zPU (m : (Option MemMemory)) (hc : zuw m = true) : Okay Pr GL 15 [.op .sMemMemory m] [] (zMC (zzb m)) := zw (H := H15) (ent := zta id m) (entA := zta zMC m) zaF zy Tryz.func15 rfl (by kernel_rfl) zMC (fun J => by kernel_rfl) (by simp only [zta, zb, zt, zu, id]) hc
abbrev zDa := AdmitFound
def zCa (r : zDa) : zY := ⟨.agg [(ze r.e), (ze r.where_.first), (ze r.where_.second)], []⟩
noncomputable def zlH {R : Type} (ret : zDa -> R) (a : Config) : Option R := some (ret (zp (decide ((a.channels.length : Int) <= 16)) 404 nowhere))
def znr (a : Config) : Option zDa := zlH id a
def zpm (a : Config) : zDa := (znr a).getD default
theorem zF5 (a : Config) : znr a = some (zpm a) := zE (show (znr a).isSome = true by simp only [znr, zlH, zG, Option.isSome_some, zT])
theorem zA4 (a : Config) : Okay Pr GL 130 [.op .sConfig (some a)] [] (zCa (zpm a)) := zw (H := zar) (ent := zlH id a) (entA := zlH zCa a) zaF zy Tryz.func130 rfl (by kernel_rfl) zCa (fun J => by kernel_rfl) (by simp only [zlH, zb, zt, zu, id]) (show (znr a).isSome = true by rw [zF5]; rfl)
abbrev R89 := Bool
def zGR (r : R89) : zY := ⟨(z8 r), []⟩
inductive L89 where | l0 (x0 : Int) | l4 (x0 : Int)
def zPO : L89 -> Nat | .l0 _ => 0 | .l4 _ => 4
def H89 : z9 := htt [] [(0, ⟨fgt [1, 30, 31, 32, 59, 60, 61, 62, 63, 64, 65, 66, 72, 73, 74, 77, 78, 79] 82 0, []⟩), (4, ⟨fgt [1, 42, 43, 44] 82 0, []⟩)] []
noncomputable def st89 (c : Config) : L89 -> St | .l0 x0 => stt [(1, .ref 0 0), (30, .sl .sPartition c.partitions), (31, (ze c.partitions.length)), (32, (ze x0))] 82 [.cells 26 (Ty.enc .sConfig c)] 0 | .l4 x0 => stt [(1, .ref 0 0), (42, .sl .sChannel c.channels), (43, (ze c.channels.length)), (44, (ze x0))] 82 [.cells 26 (Ty.enc .sConfig c)] 0
noncomputable def zfH {R : Type} (ret : R89 -> R) (c : Config) (j : L89 -> Option R) : L89 -> Option R | .l0 x0 =>let y1 := za c.partitions x0.toNat;  cond (decide (x0 < c.partitions.length)) (cond (zU x0 c.partitions.length) ( cond (zrK c y1) ( cond (!(zwv c y1)) (some (ret false)) (j (.l0 (i64.wrap (x0 + 1))))) none) none) (j (.l4 0)) | .l4 x0 =>let y1 := (((zud c x0).2).length : Int); let y2 := zo c.channels x0.toNat; let y3 := (!((((zud c x0).1).length : Int) == 1)); let y4 := i64.wrap (x0 + 1);  cond (decide (x0 < c.channels.length)) (cond (zU x0 c.channels.length) ( cond (zqa c x0) ( cond (((zoe y2) : Int) == 0) (some (ret false)) (cond ((y2.kind : Int) == 1) (cond (!((y2.depth : Int) == 0)) (some (ret false)) (cond y3 (some (ret false)) (cond (decide (y1 < 1)) (some (ret false)) (cond (decide (y1 > 4)) (some (ret false)) (j (.l4 y4)))))) (cond y3 (some (ret false)) (cond (decide (y1 < 1)) (some (ret false)) (cond (decide (y1 > 4)) (some (ret false)) (j (.l4 y4))))))) none) none) (some (ret true))
noncomputable def zoH {R : Type} (ret : R89 -> R) (c : Config) (j : L89 -> Option R) : Option R := cond (decide ((c.kernel : Int) < 0)) (some (ret false)) (cond (decide ((c.kernel : Int) >= 1024)) (some (ret false)) (cond (decide ((c.partitions.length : Int) > 8)) (some (ret false)) (cond (decide ((c.channels.length : Int) > 16)) (some (ret false)) (j (.l0 0)))))
theorem ct89 (c : Config) (l : L89) : CT fun j => zfH id c j l := by cases l <;> (dsimp only [zfH]; repeat (first | exact ctJ _ | exact ctK _ | apply ctC))
def zun (c : Config) : L89 -> Option R89 := lfp (zfH id c)
theorem zit (c : Config) (l : L89) : zun c l = zfH id c (zun c) l := zI (ct89 c) l
def zw1 (c : Config) : Option R89 := zoH id c (zun c)
def zGn (c : Config) : R89 := (zw1 c).getD default
def zxh (c : Config) : Bool := (zw1 c).isSome
theorem zQz (c : Config) (hc : zxh c = true) : Okay Pr GL 89 [.agg (Ty.enc .sConfig c)] [] (zGR (zGn c)) := zH (H := H89) (bod := zfH id c) (ent := zoH id c) (bodA := zfH zGR c) (entA := zoH zGR c) zaF zy Tryz.func89 rfl (by kernel_rfl) zGR zPO (st89 c) (fun J l => by cases l <;> kernel_rfl) (fun J => by kernel_rfl) (fun s l => by cases l <;> simp only [zfH, zb, zt, zu, id]) (fun s => by simp only [zoH, zb, zt, zu, id]) (ct89 c) (by dsimp only [zoH]; repeat (first | exact ctJ _ | exact ctK _ | apply ctC)) hc
abbrev zya := AdmitFound
def zxu (r : zya) : zY := ⟨.agg [(ze r.e), (ze r.where_.first), (ze r.where_.second)], []⟩
inductive zss where | l0 (x0 : Int) (x1 : Int)
def zKq : zss -> Nat | .l0 _ _ => 0
def H136 : z9 := htt [] [(0, ⟨fgt [1, 2, 4, 5, 24, 25, 26] 85 0, []⟩)] []
noncomputable def zQY (c : Config) (k : Int) : zss -> St | .l0 x0 x1 => stt [(1, (ze k)), (2, .ref 0 0), (4, .ref 1 0), (5, (ze x0)), (24, .sl .sWindow (zq c.cores k.toNat)), (25, (ze ((zq c.cores k.toNat).length))), (26, (ze x1))] 85 [.cells 26 (Ty.enc .sConfig c), .cells 199 [(ze 0), (ze 0), (ze 0)]] 0
noncomputable def zeO {R : Type} (ret : zya -> R) (c : Config) (k : Int) (j : zss -> Option R) : zss -> Option R | .l0 x0 x1 =>let y7 := zq c.cores k.toNat; let y1 := zaZ y7 x1.toNat; let y6 := i64.wrap (x0 + (i64.wrap (y1.usable + y1.slack))); let y8 := zam k x1; let y5 := zp (zW (y1.slack) 82 16384) 420 y8; let y9 := zp (zW (y1.usable) 1 16384) 419 y8; let y10 := y1.partition; let y4 := zp (!(zwA c k y10)) 422 y8; let y2 := zaN [y9, y5, y4]; let y11 := i64.wrap (x1 + 1); let y12 := zp false 419 y8; let y3 := zaN [y12, y5, y4];  cond (decide (x1 < y7.length)) (cond (zU x1 y7.length) ( cond (zW y10 (-1) (i64.wrap (c.partitions.length - 1))) (cond (znE c k y10) ( cond (zaV [y9, y5, y4]) ( cond (!(((y2.e : Int) == fine.e) && ((((y2.where_.first : Int) == fine.where_.first) && (((y2.where_.second : Int) == fine.where_.second) && true)) && true))) (some (ret y2)) (j (.l0 y6 y11))) none) none) (cond (znE c k y10) ( cond (zaV [y12, y5, y4]) ( cond (!(((y3.e : Int) == fine.e) && ((((y3.where_.first : Int) == fine.where_.first) && (((y3.where_.second : Int) == fine.where_.second) && true)) && true))) (some (ret y3)) (j (.l0 y6 y11))) none) none)) none) (some (ret (zp (x0 == c.major) 421 (zA k))))
noncomputable def ziX {R : Type} (ret : zya -> R) (c : Config) (k : Int) (j : zss -> Option R) : Option R := cond (zU k c.cores.length) ( cond (!(zW ((zq c.cores k.toNat).length) 1 16)) (some (ret (⟨418, (⟨(zA k).first, (zA k).second⟩ : Where)⟩ : AdmitFound))) (cond (zU k c.cores.length) (j (.l0 0 0)) none)) none
theorem zHB (c : Config) (k : Int) (l : zss) : CT fun j => zeO id c k j l := by cases l <;> (dsimp only [zeO]; repeat (first | exact ctJ _ | exact ctK _ | apply ctC))
def zqN (c : Config) (k : Int) : zss -> Option zya := lfp (zeO id c k)
theorem zpE (c : Config) (k : Int) (l : zss) : zqN c k l = zeO id c k (zqN c k) l := zI (zHB c k) l
def zq2 (c : Config) (k : Int) : Option zya := ziX id c k (zqN c k)
def zpp (c : Config) (k : Int) : zya := (zq2 c k).getD default
def zrI (c : Config) (k : Int) : Bool := (zq2 c k).isSome
theorem zK3 (c : Config) (k : Int) (hc : zrI c k = true) : Okay Pr GL 136 [.agg (Ty.enc .sConfig c), (ze k)] [] (zxu (zpp c k)) := zH (H := H136) (bod := zeO id c k) (ent := ziX id c k) (bodA := zeO zxu c k) (entA := ziX zxu c k) zaF zy Tryz.func136 rfl (by kernel_rfl) zxu zKq (zQY c k) (fun J l => by cases l <;> kernel_rfl) (fun J => by kernel_rfl) (fun s l => by cases l <;> simp only [zeO, zb, zt, zu, id]) (fun s => by simp only [ziX, zb, zt, zu, id]) (zHB c k) (by dsimp only [ziX]; repeat (first | exact ctJ _ | exact ctK _ | apply ctC)) hc
abbrev R95 := Int
def zM0 (r : R95) : zY := ⟨(ze r), []⟩
noncomputable def zoK {R : Type} (ret : R95 -> R) (c : Config) : Option R := cond (!(zal c.frames 1 1024)) (some (ret 400)) (cond (!(zal c.major 1 16384)) (some (ret 401)) (cond (!(zal c.cores.length 1 4)) (some (ret 402)) (cond (!(zal c.partitions.length 1 8)) (some (ret 403)) (cond (decide ((c.channels.length : Int) > 16)) (some (ret 404)) (some (ret 0))))))
def znC (c : Config) : Option R95 := zoK id c
def zvt (c : Config) : R95 := (znC c).getD default
theorem zMs (c : Config) : znC c = some (zvt c) := zE (show (znC c).isSome = true by simp only [znC, zoK, zG, Option.isSome_some, zT])
theorem zQF (c : Config) : Okay Pr GL 95 [.agg (Ty.enc .sConfig c)] [] (zM0 (zvt c)) := zw (H := zar) (ent := zoK id c) (entA := zoK zM0 c) zaF zy Tryz.func95 rfl (by kernel_rfl) zM0 (fun J => by kernel_rfl) (by simp only [zoK, zb, zt, zu, id]) (show (znC c).isSome = true by rw [zMs]; rfl)
abbrev zyl := Bool
def zxF (r : zyl) : zY := ⟨(z8 r), []⟩
inductive zsD where | l0 (x0 : Int)
def zKB : zsD -> Nat | .l0 _ => 0
def H157 : z9 := htt [] [(0, ⟨fgt [1, 2, 10, 11, 12] 33 0, []⟩)] []
noncomputable def zQ9 (c : Config) (p : Int) : zsD -> St | .l0 x0 => stt [(1, (ze p)), (2, .ref 0 0), (10, .sl .sPartition ((c.partitions.take p.toNat).drop 0)), (11, (ze (((c.partitions.take p.toNat).drop 0).length))), (12, (ze x0))] 33 [.cells 26 (Ty.enc .sConfig c)] 0
noncomputable def zeS {R : Type} (ret : zyl -> R) (c : Config) (p : Int) (j : zsD -> Option R) : zsD -> Option R | .l0 x0 =>let y1 := (za c.partitions p.toNat).name; let y2 := (c.partitions.take p.toNat).drop 0; let y3 := zU p c.partitions.length;  cond (decide (x0 < y2.length)) (cond (zU x0 y2.length) ( cond y3 ( cond (((za y2 x0.toNat).name).toList == y1.toList) (some (ret false)) (j (.l0 (i64.wrap (x0 + 1))))) none) none) (cond y3 ( cond (znG y1) (some (ret (zt7 y1))) none) none)
noncomputable def zi5 {R : Type} (ret : zyl -> R) (c : Config) (p : Int) (j : zsD -> Option R) : Option R := cond (inS 0 p c.partitions.length) (j (.l0 0)) none
theorem zHM (c : Config) (p : Int) (l : zsD) : CT fun j => zeS id c p j l := by cases l <;> (dsimp only [zeS]; repeat (first | exact ctJ _ | exact ctK _ | apply ctC))
def zqQ (c : Config) (p : Int) : zsD -> Option zyl := lfp (zeS id c p)
theorem zpI (c : Config) (p : Int) (l : zsD) : zqQ c p l = zeS id c p (zqQ c p) l := zI (zHM c p) l
def zrb (c : Config) (p : Int) : Option zyl := zi5 id c p (zqQ c p)
def zcj (c : Config) (p : Int) : zyl := (zrb c p).getD default
def zrQ (c : Config) (p : Int) : Bool := (zrb c p).isSome
theorem zLl (c : Config) (p : Int) (hc : zrQ c p = true) : Okay Pr GL 157 [.agg (Ty.enc .sConfig c), (ze p)] [] (zxF (zcj c p)) := zH (H := H157) (bod := zeS id c p) (ent := zi5 id c p) (bodA := zeS zxF c p) (entA := zi5 zxF c p) zaF zy Tryz.func157 rfl (by kernel_rfl) zxF zKB (zQ9 c p) (fun J l => by cases l <;> kernel_rfl) (fun J => by kernel_rfl) (fun s l => by cases l <;> simp only [zeS, zb, zt, zu, id]) (fun s => by simp only [zi5, zb, zt, zu, id]) (zHM c p) (by dsimp only [zi5]; repeat (first | exact ctJ _ | exact ctK _ | apply ctC)) hc
abbrev zyd := Bool
def zxx (r : zyd) : zY := ⟨(z8 r), []⟩
inductive zsv where | l0 (x0 : Int)
def zKt : zsv -> Nat | .l0 _ => 0
def H142 : z9 := htt [] [(0, ⟨fgt [1, 2, 5] 31 0, []⟩)] []
noncomputable def zQ1 (c : Config) (p : Int) : zsv -> St | .l0 x0 => stt [(1, (ze p)), (2, .ref 0 0), (5, (ze x0))] 31 [.cells 26 (Ty.enc .sConfig c)] 0
noncomputable def zeP {R : Type} (ret : zyd -> R) (c : Config) (p : Int) (j : zsv -> Option R) : zsv -> Option R | .l0 x0 =>let y1 := (za c.partitions p.toNat).name; let y2 := zU p c.partitions.length;  cond (decide (x0 < p)) (cond (zU x0 c.partitions.length) ( cond y2 ( cond (((za c.partitions x0.toNat).name).toList == y1.toList) (some (ret false)) (j (.l0 (i64.wrap (x0 + 1))))) none) none) (cond y2 ( cond (znF y1) (some (ret (zt5 y1))) none) none)
noncomputable def zlN {R : Type} (ret : zyd -> R) (c : Config) (p : Int) (j : zsv -> Option R) : Option R := j (.l0 0)
theorem zHE (c : Config) (p : Int) (l : zsv) : CT fun j => zeP id c p j l := by cases l <;> (dsimp only [zeP]; repeat (first | exact ctJ _ | exact ctK _ | apply ctC))
def zqO (c : Config) (p : Int) : zsv -> Option zyd := lfp (zeP id c p)
theorem zpF (c : Config) (p : Int) (l : zsv) : zqO c p l = zeP id c p (zqO c p) l := zI (zHE c p) l
def zvz (c : Config) (p : Int) : Option zyd := zlN id c p (zqO c p)
def zww (c : Config) (p : Int) : zyd := (zvz c p).getD default
def zrL (c : Config) (p : Int) : Bool := (zvz c p).isSome
theorem zK8 (c : Config) (p : Int) (hc : zrL c p = true) : Okay Pr GL 142 [.agg (Ty.enc .sConfig c), (ze p)] [] (zxx (zww c p)) := zH (H := H142) (bod := zeP id c p) (ent := zlN id c p) (bodA := zeP zxx c p) (entA := zlN zxx c p) zaF zy Tryz.func142 rfl (by kernel_rfl) zxx zKt (zQ1 c p) (fun J l => by cases l <;> kernel_rfl) (fun J => by kernel_rfl) (fun s l => by cases l <;> simp only [zeP, zb, zt, zu, id]) (fun s => by simp only [zlN, zb, zt, zu, id]) (zHE c p) (by dsimp only [zlN]; repeat (first | exact ctJ _ | exact ctK _ | apply ctC)) hc
abbrev R93 := Int
def zMZ (r : R93) : zY := ⟨(ze r), []⟩
noncomputable def zoJ {R : Type} (ret : R93 -> R) (h_0 : Channel) : Option R := cond (((zoe h_0) : Int) == 0) (some (ret 0)) (cond ((h_0.kind : Int) == 1) (some (ret (i64.wrap ((zoe h_0) + 1)))) (some (ret (i64.wrap ((zoe h_0) + 2)))))
def zpY (h_0 : Channel) : Option R93 := zoJ id h_0
def zzi (h_0 : Channel) : R93 := (zpY h_0).getD default
theorem zMr (h_0 : Channel) : zpY h_0 = some (zzi h_0) := zE (show (zpY h_0).isSome = true by simp only [zpY, zoJ, zG, Option.isSome_some, zT])
theorem zQD (h_0 : Channel) : Okay Pr GL 93 [.agg (Ty.enc .sChannel h_0)] [] (zMZ (zzi h_0)) := zw (H := zar) (ent := zoJ id h_0) (entA := zoJ zMZ h_0) zaF zy Tryz.func93 rfl (by kernel_rfl) zMZ (fun J => by kernel_rfl) (by simp only [zoJ, zb, zt, zu, id]) (show (zpY h_0).isSome = true by rw [zMr]; rfl)
abbrev zDN := Int
def zCN (r : zDN) : zY := ⟨(ze r), []⟩
noncomputable def zml {R : Type} (ret : zDN -> R) (m : (Option MemMemory)) (at_1 : Int) (n_2 : Int) : Option R := cond (decide ((at_1 : Int) < 0)) (some (ret 51)) (cond (zp7 m) ( cond (decide ((at_1 : Int) > (i64.wrap ((i64.wrap ((zzf m) * 16)) - n_2)))) (some (ret 51)) (some (ret 0))) none)
def zrz (m : (Option MemMemory)) (at_1 : Int) (n_2 : Int) : Option zDN := zml id m at_1 n_2
def zg4 (m : (Option MemMemory)) (at_1 : Int) (n_2 : Int) : zDN := (zrz m at_1 n_2).getD default
def zge (m : (Option MemMemory)) (at_1 : Int) (n_2 : Int) : Bool := (zrz m at_1 n_2).isSome
theorem zLX (m : (Option MemMemory)) (at_1 : Int) (n_2 : Int) (hc : zge m at_1 n_2 = true) : Okay Pr GL 212 [.op .sMemMemory m, (ze at_1), (ze n_2)] [] (zCN (zg4 m at_1 n_2)) := zw (H := zar) (ent := zml id m at_1 n_2) (entA := zml zCN m at_1 n_2) zaF zy Tryz.func212 rfl (by kernel_rfl) zCN (fun J => by kernel_rfl) (by simp only [zml, zb, zt, zu, id]) hc
abbrev zC9 := AdmitFound
def zB9 (r : zC9) : zY := ⟨.agg [(ze r.e), (ze r.where_.first), (ze r.where_.second)], []⟩
noncomputable def zlG {R : Type} (ret : zC9 -> R) (a : Config) : Option R := some (ret (zp (zW a.partitions.length 1 8) 403 nowhere))
def znq (a : Config) : Option zC9 := zlG id a
def zpl (a : Config) : zC9 := (znq a).getD default
theorem zF4 (a : Config) : znq a = some (zpl a) := zE (show (znq a).isSome = true by simp only [znq, zlG, zG, Option.isSome_some, zT])
theorem zA3 (a : Config) : Okay Pr GL 129 [.op .sConfig (some a)] [] (zB9 (zpl a)) := zw (H := zar) (ent := zlG id a) (entA := zlG zB9 a) zaF zy Tryz.func129 rfl (by kernel_rfl) zB9 (fun J => by kernel_rfl) (by simp only [zlG, zb, zt, zu, id]) (show (znq a).isSome = true by rw [zF4]; rfl)
abbrev zC4 := AdmitFound
def zB4 (r : zC4) : zY := ⟨.agg [(ze r.e), (ze r.where_.first), (ze r.where_.second)], []⟩
noncomputable def zlC {R : Type} (ret : zC4 -> R) (a : Config) : Option R := some (ret (zp (zW a.frames 1 1024) 400 nowhere))
def znm (a : Config) : Option zC4 := zlC id a
def zpi (a : Config) : zC4 := (znm a).getD default
theorem zFZ (a : Config) : znm a = some (zpi a) := zE (show (znm a).isSome = true by simp only [znm, zlC, zG, Option.isSome_some, zT])
theorem zA0 (a : Config) : Okay Pr GL 124 [.op .sConfig (some a)] [] (zB4 (zpi a)) := zw (H := zar) (ent := zlC id a) (entA := zlC zB4 a) zaF zy Tryz.func124 rfl (by kernel_rfl) zB4 (fun J => by kernel_rfl) (by simp only [zlC, zb, zt, zu, id]) (show (znm a).isSome = true by rw [zFZ]; rfl)
end Go.Proofs.YtganhedldgbfpaaGreatDoor
end
