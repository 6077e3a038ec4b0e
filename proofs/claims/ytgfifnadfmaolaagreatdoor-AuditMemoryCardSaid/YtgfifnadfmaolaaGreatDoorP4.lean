import Derived.Test.YtgfifnadfmaolaaGreatDoorSF
import Derived.Test.YtgfifnadfmaolaaGreatDoorRows
set_option linter.unusedVariables false
set_option linter.unusedSimpArgs false
noncomputable section
open Go.IntKind (i64 u32)
namespace Go.Proofs.YtgfifnadfmaolaaGreatDoor
abbrev aCfg (c : Config) : AV := .agg [.v (.int .i64 c.frames), .v (.int .i64 c.major), .v (.int .i64 c.kernel), .v (.int .i64 c.room), .sl (.sl .sWindow) c.cores, .sl .sPartition c.partitions, .sl .sChannel c.channels]
def zc7 : TypeId -> List (Nat × TypeId) := fun _ => []
open Go.RowKit
noncomputable abbrev Pr : Program := Tryz.prog
def nowhere : Where := ⟨-1, -1⟩
def fine : AdmitFound := ⟨0, ⟨0, 0⟩⟩
def GL : List AV := [.el .sAdmitFound [fine] 0 0, .el .sWhere [nowhere] 0 0]
def lk : List (Nat × AV) -> Nat -> AV
 | [], _ => .undef
 | (j, x) :: r, i => match Nat.beq j i with | true => x | false => lk r i
def mkE (l : List (Nat × AV)) : Nat -> Nat -> List AV
 | 0, _ => []
 | n + 1, i => lk l i :: mkE l n (i + 1)
def z7 (keep : List Nat) : Nat -> Nat -> List Nat
 | 0, _ => []
 | n + 1, i => match keep.any (Nat.beq i) with | true => z7 keep n (i + 1) | false => i :: z7 keep n (i + 1)
def zGf : List (Nat × Hd) -> Nat -> Hd
 | [], _ => ⟨[], []⟩
 | (j, x) :: r, i => match Nat.beq j i with | true => x | false => zGf r i
def zhk {L R : Type} (bod : (L -> Option R) -> L -> Option R) : Nat -> L -> Option R
 | 0, _ => none
 | n + 1, l => bod (zhk bod n) l
theorem zc {α β : Type} (f : α -> β) (b : Bool) (x y : Option α) : (cond b x y).map f = cond b (x.map f) (y.map f) := by cases b <;> rfl
theorem zF {α : Type} (b : Bool) (x y : Option α) : (cond b x y).isSome = cond b x.isSome y.isSome := by cases b <;> rfl
theorem zO {b x : Bool} : cond b x x = x := by cases b <;> rfl
theorem zC {α : Type} [Inhabited α] {o : Option α} (h : o.isSome = true) : o = some (o.getD default) := by cases o with | none => cases h | some x => rfl
def Le {R : Type} (a b : Option R) : Prop := ∀ r, a = some r -> b = some r
open Classical in
noncomputable def lim {R : Type} (f : Nat -> Option R) : Option R := if h : ∃ n r, f n = some r then f h.choose else none
def Chain {R : Type} (f : Nat -> Option R) : Prop := ∀ n, Le (f n) (f (n + 1))
theorem Chain.le {R : Type} {f : Nat -> Option R} (h : Chain f) {n m : Nat} (hm : n <= m) : Le (f n) (f m) := by
 induction hm with
 | refl => exact fun r h => h
 | step _ ih => exact fun r hr => h _ r (ih r hr)
theorem ztv {R : Type} {f : Nat -> Option R} (h : Chain f) {n : Nat} {r : R} (hr : f n = some r) : lim f = some r := by
 have hex : ∃ n r, f n = some r := ⟨n, r, hr⟩
 unfold lim
 rw [dif_pos hex]
 obtain ⟨r', h'⟩ := hex.choose_spec
 rcases Nat.le_total n hex.choose with h1 | h1
 . exact h.le h1 r hr
 . have := h.le h1 r' h'
   rw [hr] at this
   rw [h', this]
theorem zwi {R : Type} {f : Nat -> Option R} {r : R} (h : lim f = some r) : ∃ n, f n = some r := by
 unfold lim at h
 split at h
 . exact ⟨_, h⟩
 . cases h
structure CT {L R S : Type} (t : (L -> Option R) -> Option S) : Prop where
 mono : ∀ j j', (∀ l, Le (j l) (j' l)) -> Le (t j) (t j')
 fin : ∀ s : Nat -> L -> Option R, (∀ l, Chain fun n => s n l) -> ∀ r, t (fun l => lim fun n => s n l) = some r -> ∃ n, t (s n) = some r
theorem CT.const {L R S : Type} (x : Option S) : CT (L := L) (R := R) fun _ => x := ⟨fun _ _ _ _ h => h, fun _ _ _ h => ⟨0, h⟩⟩
theorem CT.jump {L R : Type} (l : L) : CT (R := R) fun j => j l := ⟨fun _ _ h => h l, fun _ _ _ h => zwi h⟩
theorem CT.cond {L R S : Type} {c : Bool} {a b : (L -> Option R) -> Option S} (ha : CT a) (hb : CT b) : CT fun j => cond c (a j) (b j) := by
 cases c
 . exact hb
 . exact ha
section
variable {L R : Type} {bod : (L -> Option R) -> L -> Option R}
theorem zhl (h : ∀ l, CT fun j => bod j l) : ∀ n l, Le (zhk bod n l) (zhk bod (n + 1) l)
 | 0, l => fun r hr => by cases hr
 | n + 1, l => (h l).mono _ _ (zhl h n)
noncomputable def lfp (bod : (L -> Option R) -> L -> Option R) (l : L) : Option R := lim fun n => zhk bod n l
theorem zL (h : ∀ l, CT fun j => bod j l) (l : L) : lfp bod l = bod (lfp bod) l := by
 have hc : ∀ l, Chain fun n => zhk bod n l := fun l n => zhl h n l
 cases hr : bod (lfp bod) l with
 | some r =>
  obtain ⟨n, hn⟩ := (h l).fin (zhk bod) hc r hr
  exact ztv (hc l) (n := n + 1) hn
 | none =>
  cases hl : lfp bod l with
  | none => rfl
  | some r =>
   exfalso
   obtain ⟨n, hn⟩ := zwi hl
   cases n with
   | zero => cases hn
   | succ n =>
    have := (h l).mono (zhk bod n) (lfp bod) (fun l' r' h' => ztv (hc l') h') r hn
    rw [hr] at this
    cases this
theorem zEI {bodA : (L -> Option zT) -> L -> Option zT} {entA : (L -> Option zT) -> Option zT} {entP : (L -> Option R) -> Option R} {toA : R -> zT} (hn : ∀ s l, bodA (fun l => (s l).map toA) l = (bod s l).map toA) (he : ∀ s, entA (fun l => (s l).map toA) = (entP s).map toA) (hc : ∀ l, CT fun j => bod j l) (hce : CT entP) {r : R} (h : entP (lfp bod) = some r) : ∃ n, entA (zhk bodA n) = some (toA r) := by
 obtain ⟨n, hn'⟩ := hce.fin (zhk bod) (fun l n => zhl hc n l) r h
 have key : ∀ n, zhk bodA n = fun l => (zhk bod n l).map toA := by
  intro n
  induction n with
  | zero => funext l; rfl
  | succ n ih => funext l; show bodA (zhk bodA n) l = _; rw [ih]; exact hn _ l
 refine ⟨n, ?_⟩
 rw [key, he, hn']
 rfl
end
theorem zAG {R : Type} {entA : Option zT} {entP : Option R} {toA : R -> zT} (he : entA = entP.map toA) {r : R} (h : entP = some r) : entA = some (toA r) := by rw [he, h]; rfl
theorem zG {R L : Type} [Inhabited R] {G : Gam} (hG : GOk Pr GL G) {H : zS} (hD : zrI (CD Pr) Pr GL H.dfr) {f : FuncId} {fn : Func} {c : Code} (hf : Pr.funcs[f]? = some fn) (hb : fn.body = some c) (hu : okL H 0 c = true) {args : List AV} {hp : List Blk}
 (to : R -> zT) (num : L -> Nat) (st : L -> St) {bodA : (L -> Option zT) -> L -> Option zT} {entA : (L -> Option zT) -> Option zT} {bod : (L -> Option R) -> L -> Option R} {ent : (L -> Option R) -> Option R} (head : ∀ (J : Jmp) l, stepAt Pr G H J (num l) 0 (ziC fn) (fin Pr H fn) (st l) = bodA (fun l => J (num l) (st l)) l)
 (run : ∀ J : Jmp, zOv Pr G H J GL fn args hp = entA (fun l => J (num l) (st l))) (nat : ∀ s l, bodA (fun l => (s l).map to) l = (bod s l).map to) (natE : ∀ s, entA (fun l => (s l).map to) = (ent s).map to) (ct : ∀ l, CT fun j => bod j l) (ctE : CT fun j => ent j)
 (hc : (ent (lfp bod)).isSome = true) : Okay Pr GL f args hp (to ((ent (lfp bod)).getD default)) := by
 have hs : ∀ (n : Nat) (l : L), zz1 Pr G H fn n (num l) (st l) = zhk bodA n l := by
  intro n
  induction n with
  | zero => exact fun l => rfl
  | succ n ih =>
   intro l
   have e : (fun l => zz1 Pr G H fn n (num l) (st l)) = zhk bodA n := funext ih
   exact (head _ l).trans (by rw [e]; rfl)
 obtain ⟨n, h⟩ := zEI nat natE ct ctE (zC hc)
 exact zkn (H := H) hG hD hf hb hu n (by rw [run, show (fun l => zz1 Pr G H fn n (num l) (st l)) = zhk bodA n from funext (hs n)]; exact h)
theorem zy {R : Type} [Inhabited R] {G : Gam} (hG : GOk Pr GL G) {H : zS} (hD : zrI (CD Pr) Pr GL H.dfr) {f : FuncId} {fn : Func} {c : Code} (hf : Pr.funcs[f]? = some fn) (hb : fn.body = some c) (hu : okL H 0 c = true) {args : List AV} {hp : List Blk}
 (to : R -> zT) {entA : Option zT} {ent : Option R} (run : ∀ J : Jmp, zOv Pr G H J GL fn args hp = entA) (natE : entA = ent.map to) (hc : ent.isSome = true) : Okay Pr GL f args hp (to (ent.getD default)) :=
 zkn (H := H) hG hD hf hb hu 0 ((run _).trans (zAG natE (zC hc)))
def Has (x : AV) : Prop := ∃ F w β y, V F w β x y
theorem Has.len {t : Ty} {xs : List t.T} (h : Has (.sl t xs)) : xs.length <= 140737488355328 := by
 obtain ⟨F, w, β, y, h⟩ := h
 cases h
 . simp
 . assumption
theorem Has.cell {cs : List AV} (h : Has (.agg cs)) (j : Nat) (hj : j < cs.length) : Has (cs.getD j .undef) := by
 obtain ⟨F, w, β, y, h⟩ := h
 cases h with | agg _ ys hl hc => exact ⟨F, w, β, _, hc j hj⟩
theorem z9 (n : Int) (h0 : -9223372036854775808 <= n) (h1 : n < 9223372036854775808) : i64.wrap n = n := by
 simp [IntKind.wrap, IntKind.bits, IntKind.signed]; omega
theorem zm {i : Nat} {n : Nat} (h : i < n) : zN (i : Int) n = true := inR_iff.2 ⟨by omega, by omega⟩
noncomputable def mn (a b : Int) : Int := match zeQ Pr (Builtin.min_ #[3, 3] 3 #[.int .i64 a, .int .i64 b]) with | some (.int _ n) => n | _ => 0
noncomputable def mx (a b : Int) : Int := match zeQ Pr (Builtin.max_ #[3, 3] 3 #[.int .i64 a, .int .i64 b]) with | some (.int _ n) => n | _ => 0
def zbT (s : ByteArray) (i : Nat) : Int := (((s.data.getD i 0).toNat : Nat) : Int)
noncomputable def bop (op : BinOp) (k : IntKind) (a b : Int) : Int := match zeQ Pr (binOp op 3 (.int k a) (.int k b)) with | some (.int _ n) => n | _ => 0
def zx (xs : List Int) (i : Nat) : Int := xs.getD i 0
def za6 (xs : List Bool) (i : Nat) : Bool := xs.getD i false
def zfh (xs : List Clo) (i : Nat) : Clo := xs.getD i .none
def zAF (xs : List (List Int)) (i : Nat) : List Int := xs.getD i []
def zcc (xs : List Window) (i : Nat) : Window := xs.getD i default
def zK (xs : List (List Window)) (i : Nat) : List Window := xs.getD i []
def zh (xs : List Region) (i : Nat) : Region := xs.getD i default
def zaQ (xs : List Port) (i : Nat) : Port := xs.getD i default
def za (xs : List Partition) (i : Nat) : Partition := xs.getD i default
def zn (xs : List Channel) (i : Nat) : Channel := xs.getD i default
def zkP (xs : List Owner) (i : Nat) : Owner := xs.getD i default
def zad (xs : List Bulkheadlaw28Turn) (i : Nat) : Bulkheadlaw28Turn := xs.getD i default
def zhA (xs : List (Option MemMemory)) (i : Nat) : Option MemMemory := xs.getD i none
def zb (xs : List PartitionPlace) (i : Nat) : PartitionPlace := xs.getD i default
def zbe (xs : List DestPlace) (i : Nat) : DestPlace := xs.getD i default
def ze (xs : List ChannelPlace) (i : Nat) : ChannelPlace := xs.getD i default
def znV (xs : List Problem) (i : Nat) : Problem := xs.getD i default
def za0 (xs : List Bulkheadref15Piece) (i : Nat) : Bulkheadref15Piece := xs.getD i default
def znH (xs : List LayoutPiece) (i : Nat) : LayoutPiece := xs.getD i default
def zbf (xs : List LayoutEnd) (i : Nat) : LayoutEnd := xs.getD i default
def zc4 (xs : List AdmitFound) (i : Nat) : AdmitFound := xs.getD i default
def zgP (xs : List LayoutAsked) (i : Nat) : LayoutAsked := xs.getD i default
theorem zt {α β : Type} {f : α -> β} {a : α} : (some a).map f = some (f a) := rfl
theorem zu {α β : Type} {f : α -> β} : (none : Option α).map f = none := rfl
theorem ctK {L R S : Type} (x : Option S) : CT (L := L) (R := R) fun _ => x := CT.const x
theorem ctJ {L R : Type} (l : L) : CT (R := R) fun j => j l := CT.jump l
theorem ctC {L R S : Type} {c : Bool} {a b : (L -> Option R) -> Option S} (ha : CT a) (hb : CT b) : CT fun j => cond c (a j) (b j) := CT.cond ha hb
abbrev stt (l : List (Nat × AV)) (n : Nat) (h : List Blk) (p : Nat) : St := ⟨mkE l n 0, h, GL, p, [], zc7⟩
abbrev htt (c : List Nat) (h : List (Nat × Hd)) (f : List (At × Cv)) : zS := ⟨fun n => c.any (Nat.beq n), zGf h, f, G0, zc7⟩
abbrev zf (n : Int) : AV := .v (.int .i64 n)
abbrev avU (n : Int) : AV := .v (.int .u32 n)
abbrev zX (b : Bool) : AV := .v (.bool b)
abbrev avG (a b d e : Int) (f : List (List Window)) (g : List Partition) (h : List Channel) (i : Int) (k : List PartitionPlace) (l : List ChannelPlace) (n : Int) (m : Option MemMemory) (o : Nat) : List AV := [zf a, zf b, zf d, zf e, .sl (.sl .sWindow) f, .sl .sPartition g, .sl .sChannel h, zf i, .sl .sPartitionPlace k, .sl .sChannelPlace l, zf n, .op .sMemMemory m, .own o]
abbrev avF (c : Config) (l : Layout) (m : Option MemMemory) (o : Nat) : List AV := avG c.frames c.major c.kernel c.room c.cores c.partitions c.channels l.barrier l.partitions l.channels l.end_ m o
def rdS (t : Ty) : AV -> Option t.T
 | .agg cs => t.dec cs
 | _ => none
def zZ (t : Ty) (x : AV) : Option t.T := match Nat.beq t.sz 1, x with
 | true, .agg _ => none
 | true, .tup _ => none
 | true, x => t.dec [x]
 | false, _ => none
def rdP (t : Ty) (x : AV) : Option t.T := match ze5 t x with | some (some x) => some x | _ => none
inductive Ats : List AV -> List AV -> Prop
 | nil : Ats [] []
 | cons {x z : AV} {l r : List AV} (h : ∀ F w β y, V F w β x y -> V F w β z y) (h' : Ats l r) : Ats (x :: l) (z :: r)
theorem Ats.refl : ∀ l : List AV, Ats l l
 | [] => .nil
 | _ :: l => .cons (fun _ _ _ _ h => h) (Ats.refl l)
theorem Ats.len {l r : List AV} (h : Ats l r) : l.length = r.length := by
 induction h with
 | nil => rfl
 | cons _ _ ih => simp [ih]
theorem Ats.get {l r : List AV} (h : Ats l r) : ∀ (j : Nat) F w β y, V F w β (l.getD j .undef) y -> V F w β (r.getD j .undef) y := by
 induction h with
 | nil => intro j F w β y h; exact h
 | cons h0 _ ih =>
  intro j F w β y h
  cases j with
  | zero => exact h0 F w β y h
  | succ j => exact ih j F w β y h
theorem Okay.ats {P : Program} {GL : List AV} {f : FuncId} {args args' : List AV} {hp : List Blk} {r : zT} (h : Okay P GL f args' hp r) (ha : Ats args args') : Okay P GL f args hp r :=
 fun F w β vs hh hg hl hv => h F w β vs hh hg (hl.trans ha.len) fun j hj => ha.get j F w β _ (hv j (by rw [ha.len]; exact hj))
theorem zKZ {F : Nat -> Prop} {w : World} {β : Gh} {cs zs : List AV} {ys : Array Value} (hl : cs.length = zs.length) (hf : Fits F w β cs zs) (h : V F w β (.agg cs) (.agg ys)) : V F w β (.agg zs) (.agg ys) := by
 cases h with
 | agg _ _ hy hc => exact .agg _ _ (hy.trans hl) fun j hj => hf j _ (by omega) (hc j (by omega))
theorem zP {t : Ty} {x : AV} {s : t.T} (h : rdS t x = some s) : ∀ F w β y, V F w β x y -> V F w β (.agg (t.enc s)) y := by
 intro F w β y hv
 unfold rdS at h
 split at h
 . rename_i cs
   obtain ⟨h1, h2⟩ := zbd (F := F) (w := w) (β := β) h
   cases hv with
   | agg _ ys hl hc => exact zKZ (by rw [h1, zae]) h2 (.agg _ ys hl hc)
 . cases h
theorem zp {t : Ty} {x : AV} {s : t.T} (h : zZ t x = some s) : ∀ F w β y, V F w β x y -> V F w β ((t.enc s).getD 0 .undef) y := by
 intro F w β y hv
 unfold zZ at h
 split at h
 . cases h
 . cases h
 . obtain ⟨h1, h2⟩ := zbd (F := F) (w := w) (β := β) h
   exact h2 0 y (by simp) (by simpa using hv)
 . cases h
theorem zbE {t : Ty} {x : AV} {s : t.T} (h : rdP t x = some s) : ∀ F w β y, V F w β x y -> V F w β (.op t (some s)) y := by
 intro F w β y hv
 unfold rdP at h
 split at h
 . rename_i ho
   simp at h; subst h
   exact zaa ho hv
 . cases h
theorem zB {n : FuncId} {fn : Func} {c : Code} (h : Pr.funcs[n]? = some fn) (hn : (fn.name == "runtime.NumGoroutine") = false) (hb : fn.body = some c) : zrG Pr n := ⟨fn, h, hn, by rw [hb]; rfl⟩
abbrev zdh := Bool × AV × List Blk
def zD (f : FuncId) (g : List AV -> List Blk -> Option zdh) : Prop := ∀ args hp b r hp', g args hp = some (b, r, hp') -> b = true -> zrG Pr f /\ Okay Pr GL f args hp ⟨r, hp'⟩
def zH {α : Type} (r : AV -> Option α) (k : α -> List AV -> Option zdh) : List AV -> Option zdh
 | x :: l => (r x).bind fun a => k a l
 | [] => none
def zI (q : zdh) : List AV -> Option zdh
 | [] => some q
 | _ :: _ => none
def zJ (k : List AV -> Option zdh) (args : List AV) (hp : List Blk) : Option zdh := match hp with | [] => k args | _ :: _ => none
def zDK (f : FuncId) (pre : List AV) (k : List AV -> Option zdh) : Prop := ∀ l q, k l = some q -> q.1 = true -> Okay Pr GL f (pre ++ l) [] ⟨q.2.1, q.2.2⟩
theorem zg {f : FuncId} {pre : List AV} {α : Type} {r : AV -> Option α} {k : α -> List AV -> Option zdh} (h : ∀ x a, r x = some a -> zDK f (pre ++ [x]) (k a)) : zDK f pre (zH r k) := by
 intro l q hq hb
 cases l with
 | nil => cases hq
 | cons x l =>
  simp only [zH, Option.bind_eq_some_iff] at hq
  obtain ⟨a, h1, h2⟩ := hq
  have := h x a h1 l q h2 hb
  rwa [List.append_assoc] at this
theorem zj {f : FuncId} {pre : List AV} {q : zdh} (h : q.1 = true -> Okay Pr GL f pre [] ⟨q.2.1, q.2.2⟩) : zDK f pre (zI q) := by
 intro l q' hq hb
 cases l with
 | nil => simp only [zI] at hq; cases hq; rw [List.append_nil]; exact h hb
 | cons x l => cases hq
theorem zk {f : FuncId} (hf : zrG Pr f) {k : List AV -> Option zdh} (h : zDK f [] k) : zD f (zJ k) := by
 intro args hp b r hp' hq hb
 cases hp with
 | nil => exact ⟨hf, h args _ hq hb⟩
 | cons x l => cases hq
def zCS : List (FuncId × (List AV -> List Blk -> Option zdh)) -> FuncId -> List AV -> List Blk -> Option zdh -> Option zdh
 | [], _, _, _, d => d
 | (n, g) :: l, f, args, hp, d => match Nat.beq n f with | true => g args hp | false => zCS l f args hp d
def zvT : List (FuncId × (List AV -> List Blk -> Option zdh)) -> Prop
 | [] => True
 | (n, g) :: l => zD n g /\ zvT l
theorem zrA : ∀ {l : List (FuncId × (List AV -> List Blk -> Option zdh))}, zvT l -> ∀ {f : FuncId} {args : List AV} {hp : List Blk} {d : Option zdh} {b : Bool} {r : AV} {hp' : List Blk}, zCS l f args hp d = some (b, r, hp') -> (d = some (b, r, hp') -> OkC Pr GL (.f f) args hp ⟨r, hp'⟩) -> b = true -> OkC Pr GL (.f f) args hp ⟨r, hp'⟩
 | [], _, f, args, hp, d, b, r, hp', h, hd, hb => hd h
 | (n, g) :: l, hl, f, args, hp, d, b, r, hp', h, hd, hb => by
  simp only [zCS] at h
  split at h
  . rename_i hn
    have := Nat.eq_of_beq_eq_true hn
    subst this
    exact hl.1 args hp b r hp' h hb
  . exact zrA hl.2 h hd hb
noncomputable def zd2 (l : List (FuncId × (List AV -> List Blk -> Option zdh))) (base : Gam) : Gam := fun c args hp => match c with
 | .f f => zCS l f args hp (base (.f f) args hp)
 | .c x => base (.c x) args hp
theorem zaH {l : List (FuncId × (List AV -> List Blk -> Option zdh))} {base : Gam} (hl : zvT l) (hb : GOk Pr GL base) : GOk Pr GL (zd2 l base) := fun c args hp b r hp' h ht => match c with
 | .f f => zrA hl h (fun hd => hb (.f f) args hp b r hp' hd ht) ht
 | .c x => hb (.c x) args hp b r hp' h ht
noncomputable def zMu (l : List (FuncId × (List AV -> List Blk -> Option zdh))) (cl : Clo -> List AV -> List Blk -> Option zdh) (base : Gam) : Gam := fun c args hp => match c with
 | .f f => zCS l f args hp (base (.f f) args hp)
 | .c x => cl x args hp
theorem zwe {l : List (FuncId × (List AV -> List Blk -> Option zdh))} {cl : Clo -> List AV -> List Blk -> Option zdh} {base : Gam} (hl : zvT l) (hc : ∀ {x : Clo} {args : List AV} {hp : List Blk} {b : Bool} {r : AV} {hp' : List Blk}, cl x args hp = some (b, r, hp') -> b = true -> OkC Pr GL (.c x) args hp ⟨r, hp'⟩) (hb : GOk Pr GL base) : GOk Pr GL (zMu l cl base) := fun c args hp b r hp' h ht => match c with
 | .f f => zrA hl h (fun hd => hb (.f f) args hp b r hp' hd ht) ht
 | .c x => hc h ht
abbrev R23 := Bool
def zHP (r : R23) : zT := ⟨(zX r), []⟩
inductive L23 where | l0 (x0 : Int)
def zSG : L23 -> Nat | .l0 _ => 0
def H23 : zS := htt [] [(0, ⟨z7 [0, 3, 5] 18 0, []⟩)] []
noncomputable def st23 (l_0 : (List Owner)) (o : Owner) : L23 -> St | .l0 x0 => stt [(0, .sl .sOwner l_0), (3, .ref 0 0), (5, (zf x0))] 18 [.cells 42 (Ty.enc .sOwner o)] 0
noncomputable def znZ {R : Type} (ret : R23 -> R) (l_0 : (List Owner)) (o : Owner) (j : L23 -> Option R) : L23 -> Option R | .l0 x0 =>let y1 := zkP l_0 x0.toNat;  cond (decide (x0 < l_0.length)) (cond (zN x0 l_0.length) ( cond (((y1.kind : Int) == o.kind) && (((y1.index : Int) == o.index) && (((y1.port : Int) == o.port) && true))) (some (ret true)) (j (.l0 (i64.wrap (x0 + 1))))) none) (some (ret false))
noncomputable def zsv {R : Type} (ret : R23 -> R) (l_0 : (List Owner)) (o : Owner) (j : L23 -> Option R) : Option R := j (.l0 0)
theorem ct23 (l_0 : (List Owner)) (o : Owner) (l : L23) : CT fun j => znZ id l_0 o j l := by cases l <;> (dsimp only [znZ]; repeat (first | exact ctJ _ | exact ctK _ | apply ctC))
def zUX (l_0 : (List Owner)) (o : Owner) : L23 -> Option R23 := lfp (znZ id l_0 o)
def zJX (l_0 : (List Owner)) (o : Owner) : Option R23 := zsv id l_0 o (zUX l_0 o)
def zOK (l_0 : (List Owner)) (o : Owner) : R23 := (zJX l_0 o).getD default
def zCD (l_0 : (List Owner)) (o : Owner) : Bool := (zJX l_0 o).isSome
theorem zTv (l_0 : (List Owner)) (o : Owner) (hc : zCD l_0 o = true) : Okay Pr GL 23 [.sl .sOwner l_0, .agg (Ty.enc .sOwner o)] [] (zHP (zOK l_0 o)) := zG (H := H23) (bod := znZ id l_0 o) (ent := zsv id l_0 o) (bodA := znZ zHP l_0 o) (entA := zsv zHP l_0 o) zA zA Tryz.func23 rfl (by kernel_rfl) zHP zSG (st23 l_0 o) (fun J l => by cases l <;> kernel_rfl) (fun J => by kernel_rfl) (fun s l => by cases l <;> simp only [znZ, zc, zt, zu, id]) (fun s => by simp only [zsv, zc, zt, zu, id]) (ct23 l_0 o) (by dsimp only [zsv]; repeat (first | exact ctJ _ | exact ctK _ | apply ctC)) hc
abbrev R42 := Bool
def zH0 (r : R42) : zT := ⟨(zX r), []⟩
inductive L42 where | l0 (x0 : Int) | l4 (x0 : Int)
def zSR : L42 -> Nat | .l0 _ => 0 | .l4 _ => 4
def H42 : zS := htt [] [(0, ⟨z7 [2, 3, 5] 99 0, []⟩), (4, ⟨z7 [2, 3, 6] 99 0, []⟩)] []
noncomputable def st42 (a : Partition) (b : Partition) : L42 -> St | .l0 x0 => stt [(2, .ref 0 0), (3, .ref 1 0), (5, (zf x0))] 99 [.cells 70 (Ty.enc .sPartition a), .cells 70 (Ty.enc .sPartition b)] 0 | .l4 x0 => stt [(2, .ref 0 0), (3, .ref 1 0), (6, (zf x0))] 99 [.cells 70 (Ty.enc .sPartition a), .cells 70 (Ty.enc .sPartition b)] 0
noncomputable def zfA {R : Type} (ret : R42 -> R) (a : Partition) (b : Partition) (j : L42 -> Option R) : L42 -> Option R | .l0 x0 =>let y1 := zh a.regions x0.toNat; let y2 := zh b.regions x0.toNat;  cond (decide (x0 < a.regions.length)) (cond (zN x0 a.regions.length) ( cond (zN x0 b.regions.length) ( cond (!(((y1.page : Int) == (y2.page)) && (((y1.pages : Int) == (y2.pages)) && (((y1.frame : Int) == (y2.frame)) && (((y1.rights : Int) == (y2.rights)) && true))))) (some (ret false)) (j (.l0 (i64.wrap (x0 + 1))))) none) none) (j (.l4 0)) | .l4 x0 =>let y1 := zaQ a.ports x0.toNat; let y2 := zaQ b.ports x0.toNat;  cond (decide (x0 < a.ports.length)) (cond (zN x0 a.ports.length) ( cond (zN x0 b.ports.length) ( cond (!(((y1.channel : Int) == (y2.channel)) && (((y1.source) == (y2.source)) && true))) (some (ret false)) (j (.l4 (i64.wrap (x0 + 1))))) none) none) (some (ret true))
noncomputable def zok {R : Type} (ret : R42 -> R) (a : Partition) (b : Partition) (j : L42 -> Option R) : Option R := cond (!(a.name.toList == b.name.toList)) (some (ret false)) (cond (!((a.entry : Int) == b.entry)) (some (ret false)) (cond (!((a.action : Int) == b.action)) (some (ret false)) (cond (!((a.restarts : Int) == b.restarts)) (some (ret false)) (cond (!((a.inputs : Int) == b.inputs)) (some (ret false)) (cond (!((a.outputs : Int) == b.outputs)) (some (ret false)) (cond (!((a.regions.length : Int) == b.regions.length)) (some (ret false)) (cond (!((a.ports.length : Int) == b.ports.length)) (some (ret false)) (j (.l0 0)))))))))
theorem ct42 (a : Partition) (b : Partition) (l : L42) : CT fun j => zfA id a b j l := by cases l <;> (dsimp only [zfA]; repeat (first | exact ctJ _ | exact ctK _ | apply ctC))
def zt5 (a : Partition) (b : Partition) : L42 -> Option R42 := lfp (zfA id a b)
theorem zim (a : Partition) (b : Partition) (l : L42) : zt5 a b l = zfA id a b (zt5 a b) l := zL (ct42 a b) l
def zxa (a : Partition) (b : Partition) : Option R42 := zok id a b (zt5 a b)
def zG9 (a : Partition) (b : Partition) : R42 := (zxa a b).getD default
def zxO (a : Partition) (b : Partition) : Bool := (zxa a b).isSome
theorem zTN (a : Partition) (b : Partition) (hc : zxO a b = true) : Okay Pr GL 42 [.agg (Ty.enc .sPartition a), .agg (Ty.enc .sPartition b)] [] (zH0 (zG9 a b)) := zG (H := H42) (bod := zfA id a b) (ent := zok id a b) (bodA := zfA zH0 a b) (entA := zok zH0 a b) zA zA Tryz.func42 rfl (by kernel_rfl) zH0 zSR (st42 a b) (fun J l => by cases l <;> kernel_rfl) (fun J => by kernel_rfl) (fun s l => by cases l <;> simp only [zfA, zc, zt, zu, id]) (fun s => by simp only [zok, zc, zt, zu, id]) (ct42 a b) (by dsimp only [zok]; repeat (first | exact ctJ _ | exact ctK _ | apply ctC)) hc
abbrev R57 := Where
def zO7 (r : R57) : zT := ⟨.agg [(zf r.first), (zf r.second)], []⟩
def H57 : zS := ⟨fun _ => false, fun _ => ⟨[], []⟩, [], G0, zc7⟩
noncomputable def zsI {R : Type} (ret : R57 -> R) : Option R := some (ret (⟨(-1), (-1)⟩ : Where))
def zui : Option R57 := zsI id
def sp57 : R57 := (zui).getD default
theorem zOB : zui = some (sp57) := zC (show (zui).isSome = true by simp only [zui, zsI, zF, Option.isSome_some, zO])
theorem zT1 : Okay Pr GL 57 [] [] (zO7 (sp57)) := zy (H := H57) (ent := zsI id) (entA := zsI zO7) zA zA Tryz.func57 rfl (by kernel_rfl) zO7 (fun J => by kernel_rfl) (by simp only [zsI, zc, zt, zu, id]) (show (zui).isSome = true by rw [zOB]; rfl)
abbrev R60 := Where
def zO9 (r : R60) : zT := ⟨.agg [(zf r.first), (zf r.second)], []⟩
noncomputable def zsK {R : Type} (ret : R60 -> R) (first : Int) : Option R := some (ret (⟨first, (-1)⟩ : Where))
def zuj (first : Int) : Option R60 := zsK id first
def zhp (first : Int) : R60 := (zuj first).getD default
theorem zOC (first : Int) : zuj first = some (zhp first) := zC (show (zuj first).isSome = true by simp only [zuj, zsK, zF, Option.isSome_some, zO])
theorem zT4 (first : Int) : Okay Pr GL 60 [(zf first)] [] (zO9 (zhp first)) := zy (H := H57) (ent := zsK id first) (entA := zsK zO9 first) zA zA Tryz.func60 rfl (by kernel_rfl) zO9 (fun J => by kernel_rfl) (by simp only [zsK, zc, zt, zu, id]) (show (zuj first).isSome = true by rw [zOC]; rfl)
abbrev R99 := Bool
def zPx (r : R99) : zT := ⟨(zX r), []⟩
noncomputable def zoC {R : Type} (ret : R99 -> R) (n_0 : Int) (least : Int) (most : Int) : Option R := cond (decide ((n_0 : Int) >= least)) (some (ret (decide ((n_0 : Int) <= most)))) (some (ret false))
def zpD (n_0 : Int) (least : Int) (most : Int) : Option R99 := zoC id n_0 least most
def zaZ (n_0 : Int) (least : Int) (most : Int) : R99 := (zpD n_0 least most).getD default
theorem zOJ (n_0 : Int) (least : Int) (most : Int) : zpD n_0 least most = some (zaZ n_0 least most) := zC (show (zpD n_0 least most).isSome = true by simp only [zpD, zoC, zF, Option.isSome_some, zO])
theorem zUH (n_0 : Int) (least : Int) (most : Int) : Okay Pr GL 99 [(zf n_0), (zf least), (zf most)] [] (zPx (zaZ n_0 least most)) := zy (H := H57) (ent := zoC id n_0 least most) (entA := zoC zPx n_0 least most) zA zA Tryz.func99 rfl (by kernel_rfl) zPx (fun J => by kernel_rfl) (by simp only [zoC, zc, zt, zu, id]) (show (zpD n_0 least most).isSome = true by rw [zOJ]; rfl)
abbrev zyZ := Int × Int
def zyl (r : zyZ) : zT := ⟨.tup [(zf r.1), (zf r.2)], []⟩
inductive zrN where | l0 (x1 : Int) (x2 : Int) (x0 : Int) | l4 (x1 : Int) (x2 : Int) (x0 : Int) (x3 : Int) | l25 (x0 : Int) (x4 : Int) (x1 : Int) (x5 : Int) (x2 : Int) (x3 : Bool) | l17 (x0 : Int) (x2 : Int) (x1 : Int) (x3 : Int)
def zMO : zrN -> Nat | .l0 _ _ _ => 0 | .l4 _ _ _ _ => 4 | .l25 _ _ _ _ _ _ => 25 | .l17 _ _ _ _ => 17
def H103 : zS := htt [8, 12] [(0, ⟨z7 [1, 2, 6, 7, 8, 43, 44, 53, 54, 55] 61 0, []⟩), (4, ⟨z7 [1, 2, 6, 7, 8, 9, 43, 44, 53, 54, 55] 61 0, []⟩), (17, ⟨z7 [1, 2, 6, 7, 8, 9, 43, 44] 61 0, []⟩), (25, ⟨z7 [1, 2, 6, 7, 8, 9, 10, 53, 54, 55] 61 0, []⟩)] []
noncomputable def zVa (c : Config) (h_1 : Int) : zrN -> St | .l0 x1 x2 x0 => stt [(1, (zf h_1)), (2, .ref 0 0), (6, (zf x1)), (7, (zf x2)), (8, (zf x0))] 61 [.cells 26 (Ty.enc .sConfig c)] 0 | .l4 x1 x2 x0 x3 => stt [(1, (zf h_1)), (2, .ref 0 0), (6, (zf x1)), (7, (zf x2)), (8, (zf x0)), (9, (zf x3))] 61 [.cells 26 (Ty.enc .sConfig c)] 0 | .l25 x0 x4 x1 x5 x2 x3 => stt [(1, (zf h_1)), (2, .ref 0 0), (6, (zf x0)), (7, (zf x4)), (8, (zf x1)), (9, (zf x5)), (10, .ref 1 0)] 61 [.cells 26 (Ty.enc .sConfig c), .cells 174 [(zf x2), (zX x3)]] 0 | .l17 x0 x2 x1 x3 => stt [(1, (zf h_1)), (2, .ref 0 0), (6, (zf x0)), (7, (zf x2)), (8, (zf x1)), (9, (zf x3))] 61 [.cells 26 (Ty.enc .sConfig c)] 0
noncomputable def zcq {R : Type} (ret : zyZ -> R) (c : Config) (h_1 : Int) (j : zrN -> Option R) : zrN -> Option R | .l0 x1 x2 x0 => cond (decide (x0 < c.partitions.length)) (j (.l4 x1 x2 x0 0)) (some (ret (x1, x2))) | .l4 x1 x2 x0 x3 =>let y2 := (za c.partitions x0.toNat).ports; let y1 := zaQ y2 x3.toNat; let y3 := y1.source; let y4 := zN x0 c.partitions.length; let y5 := y1.channel;  cond y4 ( cond (decide (x3 < y2.length)) (cond y4 ( cond (zN x3 y2.length) ( cond ((y1.channel : Int) == h_1) (cond y3 (j (.l25 (i64.wrap (x1 + 1)) x2 x0 x3 y5 y3)) (j (.l25 x1 x2 x0 x3 y5 y3))) (j (.l25 x1 x2 x0 x3 y5 y3))) none) none) (j (.l0 x1 x2 (i64.wrap (x0 + 1))))) none | .l25 x0 x4 x1 x5 x2 x3 => cond (x2 == h_1) (cond (!x3) (j (.l17 x0 (i64.wrap (x4 + 1)) x1 x5)) (j (.l17 x0 x4 x1 x5))) (j (.l17 x0 x4 x1 x5)) | .l17 x0 x2 x1 x3 => j (.l4 x0 x2 x1 (i64.wrap (x3 + 1)))
noncomputable def zln {R : Type} (ret : zyZ -> R) (c : Config) (h_1 : Int) (j : zrN -> Option R) : Option R := j (.l0 0 0 0)
theorem zJe (c : Config) (h_1 : Int) (l : zrN) : CT fun j => zcq id c h_1 j l := by cases l <;> (dsimp only [zcq]; repeat (first | exact ctJ _ | exact ctK _ | apply ctC))
def zbY (c : Config) (h_1 : Int) : zrN -> Option zyZ := lfp (zcq id c h_1)
theorem zdd (c : Config) (h_1 : Int) (l : zrN) : zbY c h_1 l = zcq id c h_1 (zbY c h_1) l := zL (zJe c h_1) l
def zvB (c : Config) (h_1 : Int) : Option zyZ := zln id c h_1 (zbY c h_1)
def zaD (c : Config) (h_1 : Int) : zyZ := (zvB c h_1).getD default
def zdH (c : Config) (h_1 : Int) : Bool := (zvB c h_1).isSome
theorem zNk (c : Config) (h_1 : Int) (hc : zdH c h_1 = true) : Okay Pr GL 103 [.agg (Ty.enc .sConfig c), (zf h_1)] [] (zyl (zaD c h_1)) := zG (H := H103) (bod := zcq id c h_1) (ent := zln id c h_1) (bodA := zcq zyl c h_1) (entA := zln zyl c h_1) zA zA Tryz.func103 rfl (by kernel_rfl) zyl zMO (zVa c h_1) (fun J l => by cases l <;> kernel_rfl) (fun J => by kernel_rfl) (fun s l => by cases l <;> simp only [zcq, zc, zt, zu, id]) (fun s => by simp only [zln, zc, zt, zu, id]) (zJe c h_1) (by dsimp only [zln]; repeat (first | exact ctJ _ | exact ctK _ | apply ctC)) hc
abbrev zy3 := Bool
def zym (r : zy3) : zT := ⟨(zX r), []⟩
inductive zrO where | l0 (x0 : Int) | l4 (x1 : Int) (x0 : Int)
def zMP : zrO -> Nat | .l0 _ => 0 | .l4 _ _ => 4
def H104 : zS := htt [] [(0, ⟨z7 [1, 2, 3, 7, 27, 28, 29, 30, 31, 32, 33, 34, 35, 36, 37] 39 0, []⟩), (4, ⟨z7 [1, 2, 3, 7, 8] 39 0, []⟩)] []
noncomputable def zVb (c : Config) (core : Int) (p : Int) : zrO -> St | .l0 x0 => stt [(1, (zf core)), (2, (zf p)), (3, .ref 0 0), (7, (zf x0))] 39 [.cells 26 (Ty.enc .sConfig c)] 0 | .l4 x1 x0 => stt [(1, (zf core)), (2, (zf p)), (3, .ref 0 0), (7, (zf x1)), (8, (zf x0))] 39 [.cells 26 (Ty.enc .sConfig c)] 0
noncomputable def zdj {R : Type} (ret : zy3 -> R) (c : Config) (core : Int) (p : Int) (j : zrO -> Option R) : zrO -> Option R | .l0 x0 => cond (decide (x0 < core)) (j (.l4 x0 0)) (some (ret false)) | .l4 x1 x0 =>let y1 := zK c.cores x1.toNat; let y2 := i64.wrap (x0 + 1); let y3 := zN x1 c.cores.length;  cond y3 ( cond (decide (x0 < y1.length)) (cond (!((p : Int) == (-1))) (cond y3 ( cond (zN x0 y1.length) ( cond (((zcc y1 x0.toNat).partition : Int) == p) (some (ret true)) (j (.l4 x1 y2))) none) none) (j (.l4 x1 y2))) (j (.l0 (i64.wrap (x1 + 1))))) none
noncomputable def zlo {R : Type} (ret : zy3 -> R) (c : Config) (core : Int) (p : Int) (j : zrO -> Option R) : Option R := j (.l0 0)
theorem zJf (c : Config) (core : Int) (p : Int) (l : zrO) : CT fun j => zdj id c core p j l := by cases l <;> (dsimp only [zdj]; repeat (first | exact ctJ _ | exact ctK _ | apply ctC))
def zfb (c : Config) (core : Int) (p : Int) : zrO -> Option zy3 := lfp (zdj id c core p)
theorem zgy (c : Config) (core : Int) (p : Int) (l : zrO) : zfb c core p l = zdj id c core p (zfb c core p) l := zL (zJf c core p) l
def zvC (c : Config) (core : Int) (p : Int) : Option zy3 := zlo id c core p (zfb c core p)
def zwA (c : Config) (core : Int) (p : Int) : zy3 := (zvC c core p).getD default
def zra (c : Config) (core : Int) (p : Int) : Bool := (zvC c core p).isSome
theorem zNl (c : Config) (core : Int) (p : Int) (hc : zra c core p = true) : Okay Pr GL 104 [.agg (Ty.enc .sConfig c), (zf core), (zf p)] [] (zym (zwA c core p)) := zG (H := H104) (bod := zdj id c core p) (ent := zlo id c core p) (bodA := zdj zym c core p) (entA := zlo zym c core p) zA zA Tryz.func104 rfl (by kernel_rfl) zym zMP (zVb c core p) (fun J l => by cases l <;> kernel_rfl) (fun J => by kernel_rfl) (fun s l => by cases l <;> simp only [zdj, zc, zt, zu, id]) (fun s => by simp only [zlo, zc, zt, zu, id]) (zJf c core p) (by dsimp only [zlo]; repeat (first | exact ctJ _ | exact ctK _ | apply ctC)) hc
abbrev zDU := Bool
def zCY (r : zDU) : zT := ⟨(zX r), []⟩
noncomputable def ziK {R : Type} (ret : zDU -> R) (a : Int) (many : Int) (b : Int) (others : Int) : Option R := cond (decide ((a : Int) < (i64.wrap (b + others)))) (some (ret (decide ((b : Int) < (i64.wrap (a + many)))))) (some (ret false))
def zjL (a : Int) (many : Int) (b : Int) (others : Int) : Option zDU := ziK id a many b others
def zmy (a : Int) (many : Int) (b : Int) (others : Int) : zDU := (zjL a many b others).getD default
theorem zGE (a : Int) (many : Int) (b : Int) (others : Int) : zjL a many b others = some (zmy a many b others) := zC (show (zjL a many b others).isSome = true by simp only [zjL, ziK, zF, Option.isSome_some, zO])
theorem zNm (a : Int) (many : Int) (b : Int) (others : Int) : Okay Pr GL 105 [(zf a), (zf many), (zf b), (zf others)] [] (zCY (zmy a many b others)) := zy (H := H57) (ent := ziK id a many b others) (entA := ziK zCY a many b others) zA zA Tryz.func105 rfl (by kernel_rfl) zCY (fun J => by kernel_rfl) (by simp only [ziK, zc, zt, zu, id]) (show (zjL a many b others).isSome = true by rw [zGE]; rfl)
abbrev zEb := AdmitFound
def zDf (r : zEb) : zT := ⟨.agg [(zf r.e), (zf r.where_.first), (zf r.where_.second)], []⟩
noncomputable def zly {R : Type} (ret : zEb -> R) (holds : Bool) (e : Int) (w : Where) : Option R := cond holds (some (ret fine)) (some (ret (⟨e, (⟨w.first, w.second⟩ : Where)⟩ : AdmitFound)))
def zmX (holds : Bool) (e : Int) (w : Where) : Option zEb := zly id holds e w
def zr (holds : Bool) (e : Int) (w : Where) : zEb := (zmX holds e w).getD default
theorem zGP (holds : Bool) (e : Int) (w : Where) : zmX holds e w = some (zr holds e w) := zC (show (zmX holds e w).isSome = true by simp only [zmX, zly, zF, Option.isSome_some, zO])
theorem zNK (holds : Bool) (e : Int) (w : Where) : Okay Pr GL 131 [(zX holds), (zf e), .agg [(zf w.first), (zf w.second)]] [] (zDf (zr holds e w)) := zy (H := H57) (ent := zly id holds e w) (entA := zly zDf holds e w) zA zA Tryz.func131 rfl (by kernel_rfl) zDf (fun J => by kernel_rfl) (by simp only [zly, zc, zt, zu, id]) (show (zmX holds e w).isSome = true by rw [zGP]; rfl)
abbrev zEc := Bool
def zDg (r : zEc) : zT := ⟨(zX r), []⟩
noncomputable def zi1 {R : Type} (ret : zEc -> R) (n_0 : Int) (least : Int) (most : Int) : Option R := cond (decide ((n_0 : Int) >= least)) (some (ret (decide ((n_0 : Int) <= most)))) (some (ret false))
def zjT (n_0 : Int) (least : Int) (most : Int) : Option zEc := zi1 id n_0 least most
def zY (n_0 : Int) (least : Int) (most : Int) : zEc := (zjT n_0 least most).getD default
theorem zGQ (n_0 : Int) (least : Int) (most : Int) : zjT n_0 least most = some (zY n_0 least most) := zC (show (zjT n_0 least most).isSome = true by simp only [zjT, zi1, zF, Option.isSome_some, zO])
theorem zNL (n_0 : Int) (least : Int) (most : Int) : Okay Pr GL 132 [(zf n_0), (zf least), (zf most)] [] (zDg (zY n_0 least most)) := zy (H := H57) (ent := zi1 id n_0 least most) (entA := zi1 zDg n_0 least most) zA zA Tryz.func132 rfl (by kernel_rfl) zDg (fun J => by kernel_rfl) (by simp only [zi1, zc, zt, zu, id]) (show (zjT n_0 least most).isSome = true by rw [zGQ]; rfl)
abbrev zEw := Where
def zDA (r : zEw) : zT := ⟨.agg [(zf r.first), (zf r.second)], []⟩
noncomputable def zlR {R : Type} (ret : zEw -> R) (first : Int) : Option R := some (ret (⟨first, (-1)⟩ : Where))
def zm5 (first : Int) : Option zEw := zlR id first
def zE (first : Int) : zEw := (zm5 first).getD default
theorem zGZ (first : Int) : zm5 first = some (zE first) := zC (show (zm5 first).isSome = true by simp only [zm5, zlR, zF, Option.isSome_some, zO])
theorem zN4 (first : Int) : Okay Pr GL 161 [(zf first)] [] (zDA (zE first)) := zy (H := H57) (ent := zlR id first) (entA := zlR zDA first) zA zA Tryz.func161 rfl (by kernel_rfl) zDA (fun J => by kernel_rfl) (by simp only [zlR, zc, zt, zu, id]) (show (zm5 first).isSome = true by rw [zGZ]; rfl)
abbrev zEx := Where
def zDB (r : zEx) : zT := ⟨.agg [(zf r.first), (zf r.second)], []⟩
noncomputable def zlT {R : Type} (ret : zEx -> R) (first : Int) (second : Int) : Option R := some (ret (⟨first, second⟩ : Where))
def zm6 (first : Int) (second : Int) : Option zEx := zlT id first second
def zam (first : Int) (second : Int) : zEx := (zm6 first second).getD default
theorem zG0 (first : Int) (second : Int) : zm6 first second = some (zam first second) := zC (show (zm6 first second).isSome = true by simp only [zm6, zlT, zF, Option.isSome_some, zO])
theorem zN7 (first : Int) (second : Int) : Okay Pr GL 164 [(zf first), (zf second)] [] (zDB (zam first second)) := zy (H := H57) (ent := zlT id first second) (entA := zlT zDB first second) zA zA Tryz.func164 rfl (by kernel_rfl) zDB (fun J => by kernel_rfl) (by simp only [zlT, zc, zt, zu, id]) (show (zm6 first second).isSome = true by rw [zG0]; rfl)
abbrev zEy := Bool
def zDC (r : zEy) : zT := ⟨(zX r), []⟩
noncomputable def zlV {R : Type} (ret : zEy -> R) (a : Int) (many : Int) (b : Int) (others : Int) : Option R := cond (decide ((a : Int) < (i64.wrap (b + others)))) (some (ret (decide ((b : Int) < (i64.wrap (a + many)))))) (some (ret false))
def zm7 (a : Int) (many : Int) (b : Int) (others : Int) : Option zEy := zlV id a many b others
def zpc (a : Int) (many : Int) (b : Int) (others : Int) : zEy := (zm7 a many b others).getD default
theorem zG1 (a : Int) (many : Int) (b : Int) (others : Int) : zm7 a many b others = some (zpc a many b others) := zC (show (zm7 a many b others).isSome = true by simp only [zm7, zlV, zF, Option.isSome_some, zO])
theorem zOa (a : Int) (many : Int) (b : Int) (others : Int) : Okay Pr GL 167 [(zf a), (zf many), (zf b), (zf others)] [] (zDC (zpc a many b others)) := zy (H := H57) (ent := zlV id a many b others) (entA := zlV zDC a many b others) zA zA Tryz.func167 rfl (by kernel_rfl) zDC (fun J => by kernel_rfl) (by simp only [zlV, zc, zt, zu, id]) (show (zm7 a many b others).isSome = true by rw [zG1]; rfl)
abbrev R71 := Int
def zPf (r : R71) : zT := ⟨(zf r), []⟩
noncomputable def zow {R : Type} (ret : R71 -> R) (h_0 : Channel) : Option R := cond (decide ((h_0.words : Int) < 1)) (some (ret 0)) (cond (decide ((h_0.words : Int) > 16)) (some (ret 0)) (cond ((h_0.kind : Int) == 1) (some (ret (i64.wrap (2 + h_0.words)))) (cond ((h_0.kind : Int) == 2) (cond (decide ((h_0.depth : Int) >= 1)) (cond (decide ((h_0.depth : Int) <= 8)) (some (ret (i64.wrap (1 + (i64.wrap (h_0.depth * (i64.wrap (1 + h_0.words)))))))) (some (ret 0))) (some (ret 0))) (some (ret 0)))))
def zpz (h_0 : Channel) : Option R71 := zow id h_0
def zmF (h_0 : Channel) : R71 := (zpz h_0).getD default
theorem zOE (h_0 : Channel) : zpz h_0 = some (zmF h_0) := zC (show (zpz h_0).isSome = true by simp only [zpz, zow, zF, Option.isSome_some, zO])
theorem zUf (h_0 : Channel) : Okay Pr GL 71 [.agg (Ty.enc .sChannel h_0)] [] (zPf (zmF h_0)) := zy (H := H57) (ent := zow id h_0) (entA := zow zPf h_0) zA zA Tryz.func71 rfl (by kernel_rfl) zPf (fun J => by kernel_rfl) (by simp only [zow, zc, zt, zu, id]) (show (zpz h_0).isSome = true by rw [zOE]; rfl)
abbrev zD0 := Int × Int
def zC4 (r : zD0) : zT := ⟨(zf r.1), [.cells 3 [(zf r.2)]]⟩
noncomputable def zls {R : Type} (ret : zD0 -> R) (n : Int) (here : Int) : Option R := some (ret (here, (i64.wrap (here + n))))
def zmU (n : Int) (here : Int) : Option zD0 := zls id n here
def zbh (n : Int) (here : Int) : zD0 := (zmU n here).getD default
theorem zGJ (n : Int) (here : Int) : zmU n here = some (zbh n here) := zC (show (zmU n here).isSome = true by simp only [zmU, zls, zF, Option.isSome_some, zO])
theorem zNw (n : Int) (here : Int) : Okay Pr GL 115 [(zf n), .ref 0 0] [.cells 3 [(zf here)]] (zC4 (zbh n here)) := zy (H := H57) (ent := zls id n here) (entA := zls zC4 n here) zA zA Tryz.func115 rfl (by kernel_rfl) zC4 (fun J => by kernel_rfl) (by simp only [zls, zc, zt, zu, id]) (show (zmU n here).isSome = true by rw [zGJ]; rfl)
abbrev zD9 := Int
def zDd (r : zD9) : zT := ⟨(zf r), []⟩
noncomputable def zi0 {R : Type} (ret : zD9 -> R) (h_0 : Channel) : Option R := cond (decide ((h_0.words : Int) < 1)) (some (ret 0)) (cond (decide ((h_0.words : Int) > 16)) (some (ret 0)) (cond ((h_0.kind : Int) == 1) (some (ret h_0.words)) (cond ((h_0.kind : Int) == 2) (cond (decide ((h_0.depth : Int) >= 1)) (cond (decide ((h_0.depth : Int) <= 8)) (some (ret (i64.wrap (h_0.depth * (i64.wrap (1 + h_0.words)))))) (some (ret 0))) (some (ret 0))) (some (ret 0)))))
def zjS (h_0 : Channel) : Option zD9 := zi0 id h_0
def zku (h_0 : Channel) : zD9 := (zjS h_0).getD default
theorem zGN (h_0 : Channel) : zjS h_0 = some (zku h_0) := zC (show (zjS h_0).isSome = true by simp only [zjS, zi0, zF, Option.isSome_some, zO])
theorem zNJ (h_0 : Channel) : Okay Pr GL 129 [.agg (Ty.enc .sChannel h_0)] [] (zDd (zku h_0)) := zy (H := H57) (ent := zi0 id h_0) (entA := zi0 zDd h_0) zA zA Tryz.func129 rfl (by kernel_rfl) zDd (fun J => by kernel_rfl) (by simp only [zi0, zc, zt, zu, id]) (show (zjS h_0).isSome = true by rw [zGN]; rfl)
abbrev R8 := (List Int)
def to8 (r : R8) : zT := ⟨.own 0, [.arr 57 (.i .u32) r]⟩
inductive L8 where | l0 (x0 : Int) (x1 : List Int)
def num8 : L8 -> Nat | .l0 _ _ => 0
def H8 : zS := htt [] [(0, ⟨z7 [0, 3, 4] 22 0, []⟩)] []
noncomputable def st8 (l_0 : (List Int)) : L8 -> St | .l0 x0 x1 => stt [(0, .sl (.i .u32) l_0), (3, .own 0), (4, (zf x0))] 22 [.arr 57 (.i .u32) x1] 0
noncomputable def zp2 {R : Type} (ret : R8 -> R) (l_0 : (List Int)) (j : L8 -> Option R) : L8 -> Option R | .l0 x0 x1 => cond (decide (x0 < l_0.length)) (cond (zN x0 l_0.length) (cond (zN x0 x1.length) (j (.l0 (i64.wrap (x0 + 1)) (List.set x1 x0.toNat (zx l_0 x0.toNat)))) none) none) (some (ret x1))
noncomputable def zzG {R : Type} (ret : R8 -> R) (l_0 : (List Int)) (j : L8 -> Option R) : Option R := cond (decide ((l_0.length : Int) = l_0.length) && decide (0 <= l_0.length) && leB ((l_0.length : Int).toNat * 4) 140737488355328) (j (.l0 0 (List.replicate (l_0.length : Int).toNat (0 : Int)))) none
theorem ct8 (l_0 : (List Int)) (l : L8) : CT fun j => zp2 id l_0 j l := by cases l <;> (dsimp only [zp2]; repeat (first | exact ctJ _ | exact ctK _ | apply ctC))
def zHg (l_0 : (List Int)) : L8 -> Option R8 := lfp (zp2 id l_0)
theorem zwS (l_0 : (List Int)) (l : L8) : zHg l_0 l = zp2 id l_0 (zHg l_0) l := zL (ct8 l_0) l
def zHk (l_0 : (List Int)) : Option R8 := zzG id l_0 (zHg l_0)
def sp8 (l_0 : (List Int)) : R8 := (zHk l_0).getD default
def zHo (l_0 : (List Int)) : Bool := (zHk l_0).isSome
theorem oks8 (l_0 : (List Int)) (hc : zHo l_0 = true) : Okay Pr GL 8 [.sl (.i .u32) l_0] [] (to8 (sp8 l_0)) := zG (H := H8) (bod := zp2 id l_0) (ent := zzG id l_0) (bodA := zp2 to8 l_0) (entA := zzG to8 l_0) zA zA Tryz.func8 rfl (by kernel_rfl) to8 num8 (st8 l_0) (fun J l => by cases l <;> kernel_rfl) (fun J => by kernel_rfl) (fun s l => by cases l <;> simp only [zp2, zc, zt, zu, id]) (fun s => by simp only [zzG, zc, zt, zu, id]) (ct8 l_0) (by dsimp only [zzG]; repeat (first | exact ctJ _ | exact ctK _ | apply ctC)) hc
abbrev R11 := Bool
def zHG (r : R11) : zT := ⟨(zX r), []⟩
inductive L11 where | l0 (x0 : Int)
def zSx : L11 -> Nat | .l0 _ => 0
def H11 : zS := htt [] [(0, ⟨z7 [0, 1, 5] 26 0, []⟩)] []
noncomputable def st11 (a : (List Owner)) (b : (List Owner)) : L11 -> St | .l0 x0 => stt [(0, .sl .sOwner a), (1, .sl .sOwner b), (5, (zf x0))] 26 [] 0
noncomputable def znX {R : Type} (ret : R11 -> R) (a : (List Owner)) (b : (List Owner)) (j : L11 -> Option R) : L11 -> Option R | .l0 x0 =>let y1 := zkP a x0.toNat; let y2 := zkP b x0.toNat;  cond (decide (x0 < a.length)) (cond (zN x0 a.length) ( cond (zN x0 b.length) ( cond (!(((y1.kind : Int) == (y2.kind)) && (((y1.index : Int) == (y2.index)) && (((y1.port : Int) == (y2.port)) && true)))) (some (ret false)) (j (.l0 (i64.wrap (x0 + 1))))) none) none) (some (ret true))
noncomputable def zsq {R : Type} (ret : R11 -> R) (a : (List Owner)) (b : (List Owner)) (j : L11 -> Option R) : Option R := cond (!((a.length : Int) == b.length)) (some (ret false)) (j (.l0 0))
theorem ct11 (a : (List Owner)) (b : (List Owner)) (l : L11) : CT fun j => znX id a b j l := by cases l <;> (dsimp only [znX]; repeat (first | exact ctJ _ | exact ctK _ | apply ctC))
def zUV (a : (List Owner)) (b : (List Owner)) : L11 -> Option R11 := lfp (znX id a b)
def zJU (a : (List Owner)) (b : (List Owner)) : Option R11 := zsq id a b (zUV a b)
def sp11 (a : (List Owner)) (b : (List Owner)) : R11 := (zJU a b).getD default
def zJ8 (a : (List Owner)) (b : (List Owner)) : Bool := (zJU a b).isSome
theorem zTj (a : (List Owner)) (b : (List Owner)) (hc : zJ8 a b = true) : Okay Pr GL 11 [.sl .sOwner a, .sl .sOwner b] [] (zHG (sp11 a b)) := zG (H := H11) (bod := znX id a b) (ent := zsq id a b) (bodA := znX zHG a b) (entA := zsq zHG a b) zA zA Tryz.func11 rfl (by kernel_rfl) zHG zSx (st11 a b) (fun J l => by cases l <;> kernel_rfl) (fun J => by kernel_rfl) (fun s l => by cases l <;> simp only [znX, zc, zt, zu, id]) (fun s => by simp only [zsq, zc, zt, zu, id]) (ct11 a b) (by dsimp only [zsq]; repeat (first | exact ctJ _ | exact ctK _ | apply ctC)) hc
abbrev R24 := (List Int)
def zOW (r : R24) : zT := ⟨.own 0, [.arr 57 (.i .u32) r]⟩
noncomputable def zsw {R : Type} (ret : R24 -> R) (s_0 : (List Int)) : Option R := cond (Nat.beq s_0.length 0) (none) (cond (leB ((([] : List Int).length + (s_0 : List Int).length) * 4) 140737488355328) (some (ret (([] : List Int) ++ s_0))) none)
def zwY (s_0 : (List Int)) : Option R24 := zsw id s_0
def zvm (s_0 : (List Int)) : R24 := (zwY s_0).getD default
def znl (s_0 : (List Int)) : Bool := (zwY s_0).isSome
theorem zTw (s_0 : (List Int)) (hc : znl s_0 = true) : Okay Pr GL 24 [.sl (.i .u32) s_0] [] (zOW (zvm s_0)) := zy (H := H57) (ent := zsw id s_0) (entA := zsw zOW s_0) zA zA Tryz.func24 rfl (by kernel_rfl) zOW (fun J => by kernel_rfl) (by simp only [zsw, zc, zt, zu, id]) hc
abbrev R87 := Int
def zIi (r : R87) : zT := ⟨(zf r), []⟩
inductive L87 where | l0 (x0 : Int)
def zS9 : L87 -> Nat | .l0 _ => 0
def H87 : zS := htt [] [(0, ⟨z7 [1, 2, 5, 6] 46 0, []⟩)] []
noncomputable def st87 (p : Partition) (at_1 : Int) : L87 -> St | .l0 x0 => stt [(1, (zf at_1)), (2, .ref 0 0), (5, (zf (bop .quo .i64 at_1 16))), (6, (zf x0))] 46 [.cells 70 (Ty.enc .sPartition p)] 0
noncomputable def zhH {R : Type} (ret : R87 -> R) (p : Partition) (at_1 : Int) (j : L87 -> Option R) : L87 -> Option R | .l0 x0 =>let y1 := zh p.regions x0.toNat; let y2 := bop .quo .i64 at_1 16; let y3 := i64.wrap (x0 + 1);  cond (decide (x0 < p.regions.length)) (cond (zN x0 p.regions.length) ( cond (decide ((y2 : Int) >= y1.page)) (cond (decide ((y2 : Int) < (i64.wrap (y1.page + y1.pages)))) (some (ret (i64.wrap ((i64.wrap ((i64.wrap ((i64.wrap (y1.frame + y2)) - y1.page)) * 16)) + (bop .rem .i64 at_1 16))))) (j (.l0 y3))) (j (.l0 y3))) none) (some (ret (-1)))
noncomputable def zs5 {R : Type} (ret : R87 -> R) (p : Partition) (at_1 : Int) (j : L87 -> Option R) : Option R := j (.l0 0)
theorem ct87 (p : Partition) (at_1 : Int) (l : L87) : CT fun j => zhH id p at_1 j l := by cases l <;> (dsimp only [zhH]; repeat (first | exact ctJ _ | exact ctK _ | apply ctC))
def zwQ (p : Partition) (at_1 : Int) : L87 -> Option R87 := lfp (zhH id p at_1)
theorem zub (p : Partition) (at_1 : Int) (l : L87) : zwQ p at_1 l = zhH id p at_1 (zwQ p at_1) l := zL (ct87 p at_1) l
def zCy (p : Partition) (at_1 : Int) : Option R87 := zs5 id p at_1 (zwQ p at_1)
def ztW (p : Partition) (at_1 : Int) : R87 := (zCy p at_1).getD default
def zpJ (p : Partition) (at_1 : Int) : Bool := (zCy p at_1).isSome
theorem zUv (p : Partition) (at_1 : Int) (hc : zpJ p at_1 = true) : Okay Pr GL 87 [.agg (Ty.enc .sPartition p), (zf at_1)] [] (zIi (ztW p at_1)) := zG (H := H87) (bod := zhH id p at_1) (ent := zs5 id p at_1) (bodA := zhH zIi p at_1) (entA := zs5 zIi p at_1) zA zA Tryz.func87 rfl (by kernel_rfl) zIi zS9 (st87 p at_1) (fun J l => by cases l <;> kernel_rfl) (fun J => by kernel_rfl) (fun s l => by cases l <;> simp only [zhH, zc, zt, zu, id]) (fun s => by simp only [zs5, zc, zt, zu, id]) (ct87 p at_1) (by dsimp only [zs5]; repeat (first | exact ctJ _ | exact ctK _ | apply ctC)) hc
abbrev R88 := Int
def zPt (r : R88) : zT := ⟨(avU r), []⟩
noncomputable def zs6 {R : Type} (ret : R88 -> R) (frame : Int) (rights : Int) : Option R := some (ret (bop .or .u32 (bop .or .u32 2147483648 (bop .shl .u32 (u32.wrap frame) 3)) (u32.wrap rights)))
def zum (frame : Int) (rights : Int) : Option R88 := zs6 id frame rights
def ztX (frame : Int) (rights : Int) : R88 := (zum frame rights).getD default
theorem zOG (frame : Int) (rights : Int) : zum frame rights = some (ztX frame rights) := zC (show (zum frame rights).isSome = true by simp only [zum, zs6, zF, Option.isSome_some, zO])
theorem zUw (frame : Int) (rights : Int) : Okay Pr GL 88 [(zf frame), (zf rights)] [] (zPt (ztX frame rights)) := zy (H := H57) (ent := zs6 id frame rights) (entA := zs6 zPt frame rights) zA zA Tryz.func88 rfl (by kernel_rfl) zPt (fun J => by kernel_rfl) (by simp only [zs6, zc, zt, zu, id]) (show (zum frame rights).isSome = true by rw [zOG]; rfl)
abbrev R89 := Int
def zIj (r : R89) : zT := ⟨(zf r), []⟩
inductive L89 where | l0 (x0 : Int)
def zTa : L89 -> Nat | .l0 _ => 0
def H89 : zS := htt [] [(0, ⟨z7 [1, 2, 5] 44 0, []⟩)] []
noncomputable def st89 (p : Partition) (page : Int) : L89 -> St | .l0 x0 => stt [(1, (zf page)), (2, .ref 0 0), (5, (zf x0))] 44 [.cells 70 (Ty.enc .sPartition p)] 0
noncomputable def zhI {R : Type} (ret : R89 -> R) (p : Partition) (page : Int) (j : L89 -> Option R) : L89 -> Option R | .l0 x0 =>let y1 := zh p.regions x0.toNat; let y2 := zN x0 p.regions.length; let y3 := i64.wrap (x0 + 1);  cond (decide (x0 < p.regions.length)) (cond y2 ( cond (decide ((page : Int) >= y1.page)) (cond y2 ( cond y2 ( cond (decide ((page : Int) < (i64.wrap (y1.page + y1.pages)))) (cond y2 (some (ret (y1.rights))) none) (j (.l0 y3))) none) none) (j (.l0 y3))) none) (some (ret 0))
noncomputable def zs7 {R : Type} (ret : R89 -> R) (p : Partition) (page : Int) (j : L89 -> Option R) : Option R := j (.l0 0)
theorem ct89 (p : Partition) (page : Int) (l : L89) : CT fun j => zhI id p page j l := by cases l <;> (dsimp only [zhI]; repeat (first | exact ctJ _ | exact ctK _ | apply ctC))
def zwR (p : Partition) (page : Int) : L89 -> Option R89 := lfp (zhI id p page)
theorem zuc (p : Partition) (page : Int) (l : L89) : zwR p page l = zhI id p page (zwR p page) l := zL (ct89 p page) l
def zCz (p : Partition) (page : Int) : Option R89 := zs7 id p page (zwR p page)
def zHd (p : Partition) (page : Int) : R89 := (zCz p page).getD default
def zx7 (p : Partition) (page : Int) : Bool := (zCz p page).isSome
theorem zUx (p : Partition) (page : Int) (hc : zx7 p page = true) : Okay Pr GL 89 [.agg (Ty.enc .sPartition p), (zf page)] [] (zIj (zHd p page)) := zG (H := H89) (bod := zhI id p page) (ent := zs7 id p page) (bodA := zhI zIj p page) (entA := zs7 zIj p page) zA zA Tryz.func89 rfl (by kernel_rfl) zIj zTa (st89 p page) (fun J l => by cases l <;> kernel_rfl) (fun J => by kernel_rfl) (fun s l => by cases l <;> simp only [zhI, zc, zt, zu, id]) (fun s => by simp only [zs7, zc, zt, zu, id]) (ct89 p page) (by dsimp only [zs7]; repeat (first | exact ctJ _ | exact ctK _ | apply ctC)) hc
abbrev R55 := Int
def zH9 (r : R55) : zT := ⟨(zf r), []⟩
inductive L55 where | l0 (x0 : Int)
def zS0 : L55 -> Nat | .l0 _ => 0
def H55 : zS := htt [] [(0, ⟨z7 [0, 3, 7, 8] 19 0, []⟩)] []
noncomputable def st55 (s_0 : (List Owner)) (v : Owner) : L55 -> St | .l0 x0 => stt [(0, .sl .sOwner s_0), (3, .ref 0 0), (7, (zf s_0.length)), (8, (zf x0))] 19 [.cells 42 (Ty.enc .sOwner v)] 0
noncomputable def zn5 {R : Type} (ret : R55 -> R) (s_0 : (List Owner)) (v : Owner) (j : L55 -> Option R) : L55 -> Option R | .l0 x0 =>let y1 := zkP s_0 x0.toNat;  cond (decide (x0 < s_0.length)) (cond (zN x0 s_0.length) ( cond (((v.kind : Int) == (y1.kind)) && (((v.index : Int) == (y1.index)) && (((v.port : Int) == (y1.port)) && true))) (some (ret x0)) (j (.l0 (i64.wrap (x0 + 1))))) none) (some (ret (-1)))
noncomputable def zsH {R : Type} (ret : R55 -> R) (s_0 : (List Owner)) (v : Owner) (j : L55 -> Option R) : Option R := j (.l0 0)
theorem ct55 (s_0 : (List Owner)) (v : Owner) (l : L55) : CT fun j => zn5 id s_0 v j l := by cases l <;> (dsimp only [zn5]; repeat (first | exact ctJ _ | exact ctK _ | apply ctC))
def zU3 (s_0 : (List Owner)) (v : Owner) : L55 -> Option R55 := lfp (zn5 id s_0 v)
def zJ5 (s_0 : (List Owner)) (v : Owner) : Option R55 := zsH id s_0 v (zU3 s_0 v)
def zON (s_0 : (List Owner)) (v : Owner) : R55 := (zJ5 s_0 v).getD default
def zCI (s_0 : (List Owner)) (v : Owner) : Bool := (zJ5 s_0 v).isSome
theorem zTZ (s_0 : (List Owner)) (v : Owner) (hc : zCI s_0 v = true) : Okay Pr GL 55 [.sl .sOwner s_0, .agg (Ty.enc .sOwner v)] [] (zH9 (zON s_0 v)) := zG (H := H55) (bod := zn5 id s_0 v) (ent := zsH id s_0 v) (bodA := zn5 zH9 s_0 v) (entA := zsH zH9 s_0 v) zA zA Tryz.func55 rfl (by kernel_rfl) zH9 zS0 (st55 s_0 v) (fun J l => by cases l <;> kernel_rfl) (fun J => by kernel_rfl) (fun s l => by cases l <;> simp only [zn5, zc, zt, zu, id]) (fun s => by simp only [zsH, zc, zt, zu, id]) (ct55 s_0 v) (by dsimp only [zsH]; repeat (first | exact ctJ _ | exact ctK _ | apply ctC)) hc
abbrev zD8 := Int
def zDc (r : zD8) : zT := ⟨(zf r), []⟩
noncomputable def ziZ {R : Type} (ret : zD8 -> R) (m : (Option MemMemory)) (at_1 : Int) (n_2 : Int) : Option R := cond m.isNone (some (ret 3)) (cond (decide ((at_1 : Int) < 0)) (some (ret 51)) (cond (decide ((n_2 : Int) < 0)) (some (ret 51)) (cond m.isSome ( cond (decide ((at_1 : Int) > ((m.getD default).words).length)) (some (ret 51)) (cond m.isSome ( cond (decide ((n_2 : Int) > (i64.wrap (((m.getD default).words).length - at_1)))) (some (ret 51)) (some (ret 0))) none)) none)))
def zjR (m : (Option MemMemory)) (at_1 : Int) (n_2 : Int) : Option zD8 := ziZ id m at_1 n_2
def zfp (m : (Option MemMemory)) (at_1 : Int) (n_2 : Int) : zD8 := (zjR m at_1 n_2).getD default
def zgf (m : (Option MemMemory)) (at_1 : Int) (n_2 : Int) : Bool := (zjR m at_1 n_2).isSome
theorem zNI (m : (Option MemMemory)) (at_1 : Int) (n_2 : Int) (hc : zgf m at_1 n_2 = true) : Okay Pr GL 128 [.op .sMemMemory m, (zf at_1), (zf n_2)] [] (zDc (zfp m at_1 n_2)) := zy (H := H57) (ent := ziZ id m at_1 n_2) (entA := ziZ zDc m at_1 n_2) zA zA Tryz.func128 rfl (by kernel_rfl) zDc (fun J => by kernel_rfl) (by simp only [ziZ, zc, zt, zu, id]) hc
def g23 := zJ (zH (zZ (.sl .sOwner)) fun a0 => zH (rdS .sOwner) fun a1 => zI ((zCD a0 a1), (zX (zOK a0 a1)), []))
theorem zLh : zD 23 g23 := zk (zB Tryz.func23 (by kernel_rfl) rfl) (zg fun x0 a0 h0 => zg fun x1 a1 h1 => zj fun hb => (zTv a0 a1 hb).ats (.cons (zp h0) (.cons (zP h1) .nil)))
def g42 := zJ (zH (rdS .sPartition) fun a0 => zH (rdS .sPartition) fun a1 => zI ((zxO a0 a1), (zX (zG9 a0 a1)), []))
theorem zLz : zD 42 g42 := zk (zB Tryz.func42 (by kernel_rfl) rfl) (zg fun x0 a0 h0 => zg fun x1 a1 h1 => zj fun hb => (zTN a0 a1 hb).ats (.cons (zP h0) (.cons (zP h1) .nil)))
def g57 := zJ (zI (true, .agg [(zf sp57.first), (zf sp57.second)], []))
theorem zLN : zD 57 g57 := zk (zB Tryz.func57 (by kernel_rfl) rfl) (zj fun hb => (zT1 ).ats .nil)
def g60 := zJ (zH (zZ (.i .i64)) fun a0 => zI (true, .agg [(zf ((zhp a0).first)), (zf ((zhp a0).second))], []))
theorem zLQ : zD 60 g60 := zk (zB Tryz.func60 (by kernel_rfl) rfl) (zg fun x0 a0 h0 => zj fun hb => (zT4 a0).ats (.cons (zp h0) .nil))
def g99 := zJ (zH (zZ (.i .i64)) fun a0 => zH (zZ (.i .i64)) fun a1 => zH (zZ (.i .i64)) fun a2 => zI (true, (zX (zaZ a0 a1 a2)), []))
theorem zMt : zD 99 g99 := zk (zB Tryz.func99 (by kernel_rfl) rfl) (zg fun x0 a0 h0 => zg fun x1 a1 h1 => zg fun x2 a2 h2 => zj fun hb => (zUH a0 a1 a2).ats (.cons (zp h0) (.cons (zp h1) (.cons (zp h2) .nil))))
def g103 := zJ (zH (rdS .sConfig) fun a0 => zH (zZ (.i .i64)) fun a1 => zI ((zdH a0 a1), .tup [(zf ((zaD a0 a1).1)), (zf ((zaD a0 a1).2))], []))
theorem zE3 : zD 103 g103 := zk (zB Tryz.func103 (by kernel_rfl) rfl) (zg fun x0 a0 h0 => zg fun x1 a1 h1 => zj fun hb => (zNk a0 a1 hb).ats (.cons (zP h0) (.cons (zp h1) .nil)))
def g104 := zJ (zH (rdS .sConfig) fun a0 => zH (zZ (.i .i64)) fun a1 => zH (zZ (.i .i64)) fun a2 => zI ((zra a0 a1 a2), (zX (zwA a0 a1 a2)), []))
theorem zE4 : zD 104 g104 := zk (zB Tryz.func104 (by kernel_rfl) rfl) (zg fun x0 a0 h0 => zg fun x1 a1 h1 => zg fun x2 a2 h2 => zj fun hb => (zNl a0 a1 a2 hb).ats (.cons (zP h0) (.cons (zp h1) (.cons (zp h2) .nil))))
def g105 := zJ (zH (zZ (.i .i64)) fun a0 => zH (zZ (.i .i64)) fun a1 => zH (zZ (.i .i64)) fun a2 => zH (zZ (.i .i64)) fun a3 => zI (true, (zX (zmy a0 a1 a2 a3)), []))
theorem zE5 : zD 105 g105 := zk (zB Tryz.func105 (by kernel_rfl) rfl) (zg fun x0 a0 h0 => zg fun x1 a1 h1 => zg fun x2 a2 h2 => zg fun x3 a3 h3 => zj fun hb => (zNm a0 a1 a2 a3).ats (.cons (zp h0) (.cons (zp h1) (.cons (zp h2) (.cons (zp h3) .nil)))))
def g131 := zJ (zH (zZ .b) fun a0 => zH (zZ (.i .i64)) fun a1 => zH (rdS .sWhere) fun a2 => zI (true, .agg [(zf ((zr a0 a1 a2).e)), (zf ((zr a0 a1 a2).where_.first)), (zf ((zr a0 a1 a2).where_.second))], []))
theorem zFv : zD 131 g131 := zk (zB Tryz.func131 (by kernel_rfl) rfl) (zg fun x0 a0 h0 => zg fun x1 a1 h1 => zg fun x2 a2 h2 => zj fun hb => (zNK a0 a1 a2).ats (.cons (zp h0) (.cons (zp h1) (.cons (zP h2) .nil))))
def g132 := zJ (zH (zZ (.i .i64)) fun a0 => zH (zZ (.i .i64)) fun a1 => zH (zZ (.i .i64)) fun a2 => zI (true, (zX (zY a0 a1 a2)), []))
theorem zFw : zD 132 g132 := zk (zB Tryz.func132 (by kernel_rfl) rfl) (zg fun x0 a0 h0 => zg fun x1 a1 h1 => zg fun x2 a2 h2 => zj fun hb => (zNL a0 a1 a2).ats (.cons (zp h0) (.cons (zp h1) (.cons (zp h2) .nil))))
def g161 := zJ (zH (zZ (.i .i64)) fun a0 => zI (true, .agg [(zf ((zE a0).first)), (zf ((zE a0).second))], []))
theorem zFZ : zD 161 g161 := zk (zB Tryz.func161 (by kernel_rfl) rfl) (zg fun x0 a0 h0 => zj fun hb => (zN4 a0).ats (.cons (zp h0) .nil))
def g164 := zJ (zH (zZ (.i .i64)) fun a0 => zH (zZ (.i .i64)) fun a1 => zI (true, .agg [(zf ((zam a0 a1).first)), (zf ((zam a0 a1).second))], []))
theorem zF2 : zD 164 g164 := zk (zB Tryz.func164 (by kernel_rfl) rfl) (zg fun x0 a0 h0 => zg fun x1 a1 h1 => zj fun hb => (zN7 a0 a1).ats (.cons (zp h0) (.cons (zp h1) .nil)))
def g167 := zJ (zH (zZ (.i .i64)) fun a0 => zH (zZ (.i .i64)) fun a1 => zH (zZ (.i .i64)) fun a2 => zH (zZ (.i .i64)) fun a3 => zI (true, (zX (zpc a0 a1 a2 a3)), []))
theorem zF5 : zD 167 g167 := zk (zB Tryz.func167 (by kernel_rfl) rfl) (zg fun x0 a0 h0 => zg fun x1 a1 h1 => zg fun x2 a2 h2 => zg fun x3 a3 h3 => zj fun hb => (zOa a0 a1 a2 a3).ats (.cons (zp h0) (.cons (zp h1) (.cons (zp h2) (.cons (zp h3) .nil)))))
def g71 := zJ (zH (rdS .sChannel) fun a0 => zI (true, (zf (zmF a0)), []))
theorem zL1 : zD 71 g71 := zk (zB Tryz.func71 (by kernel_rfl) rfl) (zg fun x0 a0 h0 => zj fun hb => (zUf a0).ats (.cons (zP h0) .nil))
def zK0 (args : List AV) (hp : List Blk) : Option (Bool × AV × List Blk) :=
 match args, hp with
 | [.v (.int .i64 y0), .ref 0 0], [.cells 3 [.v (.int .i64 y1)]] => some (true, (zf ((zbh y0 y1).1)), [.cells 3 [(zf ((zbh y0 y1).2))]])
 | _, _ => none
theorem zFf : zD 115 zK0 := fun args hp b r hp' h hb => by
 unfold zK0 at h
 split at h
 . cases h; exact ⟨zB Tryz.func115 (by kernel_rfl) rfl, zNw _ _⟩
 . cases h
def g129 := zJ (zH (rdS .sChannel) fun a0 => zI (true, (zf (zku a0)), []))
theorem zFt : zD 129 g129 := zk (zB Tryz.func129 (by kernel_rfl) rfl) (zg fun x0 a0 h0 => zj fun hb => (zNJ a0).ats (.cons (zP h0) .nil))
def g8 := zJ (zH (zZ (.sl (.i .u32))) fun a0 => zI ((zHo a0), .own 0, [.arr 57 (.i .u32) (sp8 a0)]))
theorem zSn : zD 8 g8 := zk (zB Tryz.func8 (by kernel_rfl) rfl) (zg fun x0 a0 h0 => zj fun hb => (oks8 a0 hb).ats (.cons (zp h0) .nil))
def g11 := zJ (zH (zZ (.sl .sOwner)) fun a0 => zH (zZ (.sl .sOwner)) fun a1 => zI ((zJ8 a0 a1), (zX (sp11 a0 a1)), []))
theorem zK1 : zD 11 g11 := zk (zB Tryz.func11 (by kernel_rfl) rfl) (zg fun x0 a0 h0 => zg fun x1 a1 h1 => zj fun hb => (zTj a0 a1 hb).ats (.cons (zp h0) (.cons (zp h1) .nil)))
def g24 := zJ (zH (zZ (.sl (.i .u32))) fun a0 => zI ((znl a0), .own 0, [.arr 57 (.i .u32) (zvm a0)]))
theorem zLi : zD 24 g24 := zk (zB Tryz.func24 (by kernel_rfl) rfl) (zg fun x0 a0 h0 => zj fun hb => (zTw a0 hb).ats (.cons (zp h0) .nil))
def g87 := zJ (zH (rdS .sPartition) fun a0 => zH (zZ (.i .i64)) fun a1 => zI ((zpJ a0 a1), (zf (ztW a0 a1)), []))
theorem zMh : zD 87 g87 := zk (zB Tryz.func87 (by kernel_rfl) rfl) (zg fun x0 a0 h0 => zg fun x1 a1 h1 => zj fun hb => (zUv a0 a1 hb).ats (.cons (zP h0) (.cons (zp h1) .nil)))
def g88 := zJ (zH (zZ (.i .i64)) fun a0 => zH (zZ (.i .i64)) fun a1 => zI (true, (avU (ztX a0 a1)), []))
theorem zMi : zD 88 g88 := zk (zB Tryz.func88 (by kernel_rfl) rfl) (zg fun x0 a0 h0 => zg fun x1 a1 h1 => zj fun hb => (zUw a0 a1).ats (.cons (zp h0) (.cons (zp h1) .nil)))
def g89 := zJ (zH (rdS .sPartition) fun a0 => zH (zZ (.i .i64)) fun a1 => zI ((zx7 a0 a1), (zf (zHd a0 a1)), []))
theorem zMj : zD 89 g89 := zk (zB Tryz.func89 (by kernel_rfl) rfl) (zg fun x0 a0 h0 => zg fun x1 a1 h1 => zj fun hb => (zUx a0 a1 hb).ats (.cons (zP h0) (.cons (zp h1) .nil)))
def g55 := zJ (zH (zZ (.sl .sOwner)) fun a0 => zH (rdS .sOwner) fun a1 => zI ((zCI a0 a1), (zf (zON a0 a1)), []))
theorem zLL : zD 55 g55 := zk (zB Tryz.func55 (by kernel_rfl) rfl) (zg fun x0 a0 h0 => zg fun x1 a1 h1 => zj fun hb => (zTZ a0 a1 hb).ats (.cons (zp h0) (.cons (zP h1) .nil)))
def g128 := zJ (zH (zZ (.p .sMemMemory)) fun a0 => zH (zZ (.i .i64)) fun a1 => zH (zZ (.i .i64)) fun a2 => zI ((zgf a0 a1 a2), (zf (zfp a0 a1 a2)), []))
theorem zFs : zD 128 g128 := zk (zB Tryz.func128 (by kernel_rfl) rfl) (zg fun x0 a0 h0 => zg fun x1 a1 h1 => zg fun x2 a2 h2 => zj fun hb => (zNI a0 a1 a2 hb).ats (.cons (zp h0) (.cons (zp h1) (.cons (zp h2) .nil))))
noncomputable def GA : Gam := zd2 [(23, g23), (42, g42), (57, g57), (60, g60), (99, g99), (103, g103), (104, g104), (105, g105), (131, g131), (132, g132), (161, g161), (164, g164), (167, g167), (71, g71), (115, zK0), (129, g129), (8, g8), (11, g11), (24, g24), (87, g87), (88, g88), (89, g89), (55, g55), (128, g128)] G0
theorem zdV : GOk Pr GL GA := zaH ⟨zLh, zLz, zLN, zLQ, zMt, zE3, zE4, zE5, zFv, zFw, zFZ, zF2, zF5, zL1, zFf, zFt, zSn, zK1, zLi, zMh, zMi, zMj, zLL, zFs, trivial⟩ zA
abbrev R9 := Config
def to9 (r : R9) : zT := ⟨.agg [(zf r.frames), (zf r.major), (zf r.kernel), (zf r.room), .own 0, .own 1, .own 2], [.arr 66 (.sl .sWindow) r.cores, .arr 70 .sPartition r.partitions, .arr 97 .sChannel r.channels]⟩
inductive L9 where | l0 (x0 : Int) (x1 : List (List Window)) | l4 (x0 : Int) (x2 : List (List Window)) (x1 : List Partition)
def num9 : L9 -> Nat | .l0 _ _ => 0 | .l4 _ _ _ => 4
def H9 : zS := htt [] [(0, ⟨z7 [1, 2, 3, 4] 77 0, []⟩), (4, ⟨z7 [1, 2, 3, 6] 77 0, []⟩)] []
noncomputable def st9 (c : Config) : L9 -> St | .l0 x0 x1 => stt [(1, .ref 0 0), (2, .ref 1 0), (3, .ref 2 0), (4, (zf x0))] 77 [.cells 26 (Ty.enc .sConfig c), .cells 26 [(zf 0), (zf 0), (zf 0), (zf 0), .v (.slice none 0 0), .v (.slice none 0 0), .v (.slice none 0 0)], .cells 26 [(zf c.frames), (zf c.major), (zf c.kernel), (zf c.room), .own 3, .sl .sPartition c.partitions, .sl .sChannel c.channels], .arr 66 (.sl .sWindow) x1] 0 | .l4 x0 x2 x1 => stt [(1, .ref 0 0), (2, .ref 1 0), (3, .ref 2 0), (6, (zf x0))] 77 [.cells 26 (Ty.enc .sConfig c), .cells 26 [(zf 0), (zf 0), (zf 0), (zf 0), .v (.slice none 0 0), .v (.slice none 0 0), .v (.slice none 0 0)], .cells 26 [(zf c.frames), (zf c.major), (zf c.kernel), (zf c.room), .own 3, .own 4, .sl .sChannel c.channels], .arr 66 (.sl .sWindow) x2, .arr 70 .sPartition x1] 0
noncomputable def zk8 {R : Type} (ret : R9 -> R) (c : Config) (j : L9 -> Option R) : L9 -> Option R | .l0 x0 x1 =>let y1 := (c.partitions.length : Int);  cond (decide (x0 < c.cores.length)) (cond (zN x0 c.cores.length) ( cond (leB ((([] : List Window).length + (zK c.cores x0.toNat : List Window).length) * 24) 140737488355328) ( cond (zN x0 x1.length) (j (.l0 (i64.wrap (x0 + 1)) (List.set x1 x0.toNat (([] : List Window) ++ zK c.cores x0.toNat)))) none) none) none) (cond (decide (y1 = c.partitions.length) && decide (0 <= c.partitions.length) && leB (y1.toNat * 104) 140737488355328) ( j (.l4 0 x1 (List.replicate y1.toNat (⟨(ByteArray.mk #[]), 0, 0, 0, 0, 0, [], []⟩ : Partition)))) none) | .l4 x0 x2 x1 =>let y1 := za c.partitions x0.toNat;  cond (decide (x0 < c.partitions.length)) (cond (zN x0 c.partitions.length) ( cond (leB ((([] : List Region).length + (y1.regions : List Region).length) * 32) 140737488355328) ( cond (leB ((([] : List Port).length + (y1.ports : List Port).length) * 16) 140737488355328) ( cond (zN x0 x1.length) ( j (.l4 (i64.wrap (x0 + 1)) x2 (List.set x1 x0.toNat (⟨y1.name, y1.entry, y1.action, y1.restarts, y1.inputs, y1.outputs, (([] : List Region) ++ y1.regions), (([] : List Port) ++ y1.ports)⟩ : Partition)))) none) none) none) none) (cond (leB ((([] : List Channel).length + (c.channels : List Channel).length) * 24) 140737488355328) (some (ret (⟨c.frames, c.major, c.kernel, c.room, x2, x1, (([] : List Channel) ++ c.channels)⟩ : Config))) none)
noncomputable def zzH {R : Type} (ret : R9 -> R) (c : Config) (j : L9 -> Option R) : Option R := cond (decide ((c.cores.length : Int) = c.cores.length) && decide (0 <= c.cores.length) && leB ((c.cores.length : Int).toNat * 24) 140737488355328) (j (.l0 0 (List.replicate (c.cores.length : Int).toNat []))) none
theorem ct9 (c : Config) (l : L9) : CT fun j => zk8 id c j l := by cases l <;> (dsimp only [zk8]; repeat (first | exact ctJ _ | exact ctK _ | apply ctC))
def zCt (c : Config) : L9 -> Option R9 := lfp (zk8 id c)
theorem zk1 (c : Config) (l : L9) : zCt c l = zk8 id c (zCt c) l := zL (ct9 c) l
def zHl (c : Config) : Option R9 := zzH id c (zCt c)
def sp9 (c : Config) : R9 := (zHl c).getD default
def zHp (c : Config) : Bool := (zHl c).isSome
theorem oks9 (c : Config) (hc : zHp c = true) : Okay Pr GL 9 [.agg (Ty.enc .sConfig c)] [] (to9 (sp9 c)) := zG (H := H9) (bod := zk8 id c) (ent := zzH id c) (bodA := zk8 to9 c) (entA := zzH to9 c) zdV zA Tryz.func9 rfl (by kernel_rfl) to9 num9 (st9 c) (fun J l => by cases l <;> kernel_rfl) (fun J => by kernel_rfl) (fun s l => by cases l <;> simp only [zk8, zc, zt, zu, id]) (fun s => by simp only [zzH, zc, zt, zu, id]) (ct9 c) (by dsimp only [zzH]; repeat (first | exact ctJ _ | exact ctK _ | apply ctC)) hc
abbrev R54 := Int × Bool
def zH8 (r : R54) : zT := ⟨.tup [(zf r.1), (zX r.2)], []⟩
inductive L54 where | l0 (x0 : Int) | l4 (x1 : Int) (x2 : Int) (x3 : List Region) (x4 : Int) (x0 : Int)
def zSZ : L54 -> Nat | .l0 _ => 0 | .l4 _ _ _ _ _ => 4
def H54 : zS := htt [] [(0, ⟨z7 [1, 11, 12, 13, 29, 30, 31, 34, 35, 36, 37, 40, 41, 42, 43, 44, 45, 46] 51 0, []⟩), (4, ⟨z7 [1, 6, 11, 12, 13, 19, 20, 21] 51 0, []⟩)] []
noncomputable def st54 (c : Config) (frame : Int) : L54 -> St | .l0 x0 => stt [(1, (zf frame)), (11, .sl .sPartition c.partitions), (12, (zf c.partitions.length)), (13, (zf x0))] 51 [] 0 | .l4 x1 x2 x3 x4 x0 => stt [(1, (zf frame)), (6, (zf x1)), (11, .sl .sPartition c.partitions), (12, (zf c.partitions.length)), (13, (zf x2)), (19, .sl .sRegion x3), (20, (zf x4)), (21, (zf x0))] 51 [] 0
noncomputable def zn4 {R : Type} (ret : R54 -> R) (c : Config) (frame : Int) (j : L54 -> Option R) : L54 -> Option R | .l0 x0 =>let y1 := (za c.partitions x0.toNat).regions;  cond (decide (x0 < c.partitions.length)) (cond (zN x0 c.partitions.length) (j (.l4 x0 x0 y1 (y1.length) 0)) none) (some (ret (0, false))) | .l4 x1 x2 x3 x4 x0 =>let y1 := zh x3 x0.toNat; let y2 := i64.wrap (x0 + 1);  cond (decide (x0 < x4)) (cond (zN x0 x3.length) ( cond (decide ((y1.frame : Int) >= 0)) (cond (decide ((y1.frame : Int) <= 1024)) (cond (decide ((frame : Int) >= y1.frame)) (cond (decide ((frame : Int) < (i64.wrap (y1.frame + y1.pages)))) (some (ret (x1, true))) (j (.l4 x1 x2 x3 x4 y2))) (j (.l4 x1 x2 x3 x4 y2))) (j (.l4 x1 x2 x3 x4 y2))) (j (.l4 x1 x2 x3 x4 y2))) none) (j (.l0 (i64.wrap (x2 + 1))))
noncomputable def zsG {R : Type} (ret : R54 -> R) (c : Config) (frame : Int) (j : L54 -> Option R) : Option R := j (.l0 0)
theorem ct54 (c : Config) (frame : Int) (l : L54) : CT fun j => zn4 id c frame j l := by cases l <;> (dsimp only [zn4]; repeat (first | exact ctJ _ | exact ctK _ | apply ctC))
def zU2 (c : Config) (frame : Int) : L54 -> Option R54 := lfp (zn4 id c frame)
def zJ4 (c : Config) (frame : Int) : Option R54 := zsG id c frame (zU2 c frame)
def zCm (c : Config) (frame : Int) : R54 := (zJ4 c frame).getD default
def zCH (c : Config) (frame : Int) : Bool := (zJ4 c frame).isSome
theorem zTY (c : Config) (frame : Int) (hc : zCH c frame = true) : Okay Pr GL 54 [.agg (Ty.enc .sConfig c), (zf frame)] [] (zH8 (zCm c frame)) := zG (H := H54) (bod := zn4 id c frame) (ent := zsG id c frame) (bodA := zn4 zH8 c frame) (entA := zsG zH8 c frame) zdV zA Tryz.func54 rfl (by kernel_rfl) zH8 zSZ (st54 c frame) (fun J l => by cases l <;> kernel_rfl) (fun J => by kernel_rfl) (fun s l => by cases l <;> simp only [zn4, zc, zt, zu, id]) (fun s => by simp only [zsG, zc, zt, zu, id]) (ct54 c frame) (by dsimp only [zsG]; repeat (first | exact ctJ _ | exact ctK _ | apply ctC)) hc
abbrev zzg := Bool
def zyz (r : zzg) : zT := ⟨(zX r), []⟩
inductive zr1 where | l0 (x0 : Int)
def zM2 : zr1 -> Nat | .l0 _ => 0
def H147 : zS := htt [] [(0, ⟨z7 [0, 3] 49 0, []⟩)] []
noncomputable def zVo (s_0 : ByteArray) : zr1 -> St | .l0 x0 => stt [(0, .v (.string s_0)), (3, (zf x0))] 49 [] 0
noncomputable def zeH {R : Type} (ret : zzg -> R) (s_0 : ByteArray) (j : zr1 -> Option R) : zr1 -> Option R | .l0 x0 =>let y1 := ((zbT s_0 x0.toNat) : Int); let y2 := i64.wrap (x0 + 1); let y3 := !(y1 == 45);  cond (decide (x0 < s_0.size)) (cond (zN x0 s_0.size) ( cond (decide (y1 < 97)) (cond (decide (y1 < 48)) (cond y3 (some (ret false)) (j (.l0 y2))) (cond (decide (y1 > 57)) (cond y3 (some (ret false)) (j (.l0 y2))) (j (.l0 y2)))) (cond (decide (y1 > 122)) (cond (decide (y1 < 48)) (cond y3 (some (ret false)) (j (.l0 y2))) (cond (decide (y1 > 57)) (cond y3 (some (ret false)) (j (.l0 y2))) (j (.l0 y2)))) (j (.l0 y2)))) none) (some (ret true))
noncomputable def zi6 {R : Type} (ret : zzg -> R) (s_0 : ByteArray) (j : zr1 -> Option R) : Option R := cond (s_0.toList == (ByteArray.mk #[]).toList) (some (ret false)) (cond (decide ((s_0.size : Int) > 16)) (some (ret false)) (cond (zN 0 s_0.size) ( cond (decide (((zbT s_0 0) : Int) < 97)) (some (ret false)) (cond (zN 0 s_0.size) (cond (decide (((zbT s_0 0) : Int) > 122)) (some (ret false)) (j (.l0 0))) none)) none))
theorem zJs (s_0 : ByteArray) (l : zr1) : CT fun j => zeH id s_0 j l := by cases l <;> (dsimp only [zeH]; repeat (first | exact ctJ _ | exact ctK _ | apply ctC))
def zmK (s_0 : ByteArray) : zr1 -> Option zzg := lfp (zeH id s_0)
theorem zpi (s_0 : ByteArray) (l : zr1) : zmK s_0 l = zeH id s_0 (zmK s_0) l := zL (zJs s_0) l
def zqR (s_0 : ByteArray) : Option zzg := zi6 id s_0 (zmK s_0)
def ztO (s_0 : ByteArray) : zzg := (zqR s_0).getD default
def znb (s_0 : ByteArray) : Bool := (zqR s_0).isSome
theorem zNQ (s_0 : ByteArray) (hc : znb s_0 = true) : Okay Pr GL 147 [.v (.string s_0)] [] (zyz (ztO s_0)) := zG (H := H147) (bod := zeH id s_0) (ent := zi6 id s_0) (bodA := zeH zyz s_0) (entA := zi6 zyz s_0) zdV zA Tryz.func147 rfl (by kernel_rfl) zyz zM2 (zVo s_0) (fun J l => by cases l <;> kernel_rfl) (fun J => by kernel_rfl) (fun s l => by cases l <;> simp only [zeH, zc, zt, zu, id]) (fun s => by simp only [zi6, zc, zt, zu, id]) (zJs s_0) (by dsimp only [zi6]; repeat (first | exact ctJ _ | exact ctK _ | apply ctC)) hc
abbrev R90 := Bool
def zIk (r : R90) : zT := ⟨(zX r), []⟩
inductive L90 where | l0 (x0 : Int) | l4 (x0 : Int)
def zTb : L90 -> Nat | .l0 _ => 0 | .l4 _ => 4
def H90 : zS := htt [] [(0, ⟨z7 [1, 2, 20, 21, 65, 66, 67, 68, 69, 70, 71, 72] 75 0, []⟩), (4, ⟨z7 [1, 2, 53, 54] 75 0, []⟩)] []
noncomputable def st90 (p : Partition) (channels : Int) : L90 -> St | .l0 x0 => stt [(1, (zf channels)), (2, .ref 0 0), (20, (zf p.regions.length)), (21, (zf x0))] 75 [.cells 70 (Ty.enc .sPartition p)] 0 | .l4 x0 => stt [(1, (zf channels)), (2, .ref 0 0), (53, (zf p.ports.length)), (54, (zf x0))] 75 [.cells 70 (Ty.enc .sPartition p)] 0
noncomputable def zfG {R : Type} (ret : R90 -> R) (p : Partition) (channels : Int) (j : L90 -> Option R) : L90 -> Option R | .l0 x0 =>let y1 := zh p.regions x0.toNat;  cond (decide (x0 < p.regions.length)) (cond (zN x0 p.regions.length) ( cond (decide ((y1.page : Int) < 0)) (some (ret false)) (cond (decide ((y1.page : Int) > 256)) (some (ret false)) (cond (decide ((y1.pages : Int) < 1)) (some (ret false)) (cond (decide ((y1.pages : Int) > (i64.wrap (256 - y1.page)))) (some (ret false)) (j (.l0 (i64.wrap (x0 + 1)))))))) none) (j (.l4 0)) | .l4 x0 =>let y1 := ((zaQ p.ports x0.toNat).channel : Int); let y2 := zN x0 p.ports.length;  cond (decide (x0 < p.ports.length)) (cond y2 ( cond (decide (y1 < 0)) (some (ret false)) (cond y2 ( cond (decide (y1 >= channels)) (some (ret false)) (j (.l4 (i64.wrap (x0 + 1))))) none)) none) (some (ret true))
noncomputable def zoz {R : Type} (ret : R90 -> R) (p : Partition) (channels : Int) (j : L90 -> Option R) : Option R := cond (decide ((p.regions.length : Int) > 8)) (some (ret false)) (cond (decide ((p.ports.length : Int) > 8)) (some (ret false)) (j (.l0 0)))
theorem ct90 (p : Partition) (channels : Int) (l : L90) : CT fun j => zfG id p channels j l := by cases l <;> (dsimp only [zfG]; repeat (first | exact ctJ _ | exact ctK _ | apply ctC))
def zud (p : Partition) (channels : Int) : L90 -> Option R90 := lfp (zfG id p channels)
theorem zit (p : Partition) (channels : Int) (l : L90) : zud p channels l = zfG id p channels (zud p channels) l := zL (ct90 p channels) l
def zxz (p : Partition) (channels : Int) : Option R90 := zoz id p channels (zud p channels)
def zHe (p : Partition) (channels : Int) : R90 := (zxz p channels).getD default
def zx8 (p : Partition) (channels : Int) : Bool := (zxz p channels).isSome
theorem zUy (p : Partition) (channels : Int) (hc : zx8 p channels = true) : Okay Pr GL 90 [.agg (Ty.enc .sPartition p), (zf channels)] [] (zIk (zHe p channels)) := zG (H := H90) (bod := zfG id p channels) (ent := zoz id p channels) (bodA := zfG zIk p channels) (entA := zoz zIk p channels) zdV zA Tryz.func90 rfl (by kernel_rfl) zIk zTb (st90 p channels) (fun J l => by cases l <;> kernel_rfl) (fun J => by kernel_rfl) (fun s l => by cases l <;> simp only [zfG, zc, zt, zu, id]) (fun s => by simp only [zoz, zc, zt, zu, id]) (ct90 p channels) (by dsimp only [zoz]; repeat (first | exact ctJ _ | exact ctK _ | apply ctC)) hc
abbrev R92 := Int
def zIl (r : R92) : zT := ⟨(zf r), []⟩
inductive L92 where | l0 (x0 : Int) (x1 : Int) | l15 (x0 : Int) (x1 : Int)
def zTc : L92 -> Nat | .l0 _ _ => 0 | .l15 _ _ => 15
def H92 : zS := htt [7] [(0, ⟨z7 [1, 2, 3, 7, 11, 12, 24, 25, 26, 27, 28, 29, 30, 31] 37 0, []⟩), (15, ⟨z7 [1, 2, 3, 7, 11, 12] 37 0, []⟩)] []
noncomputable def st92 (p : Partition) (channel : Int) (source : Bool) : L92 -> St | .l0 x0 x1 => stt [(1, (zf channel)), (2, (zX source)), (3, .ref 0 0), (7, (zf x0)), (11, (zf p.ports.length)), (12, (zf x1))] 37 [.cells 70 (Ty.enc .sPartition p)] 0 | .l15 x0 x1 => stt [(1, (zf channel)), (2, (zX source)), (3, .ref 0 0), (7, (zf x0)), (11, (zf p.ports.length)), (12, (zf x1))] 37 [.cells 70 (Ty.enc .sPartition p)] 0
noncomputable def zgQ {R : Type} (ret : R92 -> R) (p : Partition) (channel : Int) (source : Bool) (j : L92 -> Option R) : L92 -> Option R | .l0 x0 x1 =>let y1 := zaQ p.ports x1.toNat; let y2 := zN x1 p.ports.length;  cond (decide (x1 < p.ports.length)) (cond y2 ( cond ((y1.channel : Int) == channel) (cond y2 ( cond ((y1.source) == source) (j (.l15 (i64.wrap (x0 + 1)) x1)) (j (.l15 x0 x1))) none) (j (.l15 x0 x1))) none) (some (ret x0)) | .l15 x0 x1 => j (.l0 x0 (i64.wrap (x1 + 1)))
noncomputable def zs8 {R : Type} (ret : R92 -> R) (p : Partition) (channel : Int) (source : Bool) (j : L92 -> Option R) : Option R := j (.l0 0 0)
theorem ct92 (p : Partition) (channel : Int) (source : Bool) (l : L92) : CT fun j => zgQ id p channel source j l := by cases l <;> (dsimp only [zgQ]; repeat (first | exact ctJ _ | exact ctK _ | apply ctC))
def zmO (p : Partition) (channel : Int) (source : Bool) : L92 -> Option R92 := lfp (zgQ id p channel source)
theorem zmP (p : Partition) (channel : Int) (source : Bool) (l : L92) : zmO p channel source l = zgQ id p channel source (zmO p channel source) l := zL (ct92 p channel source) l
def zCA (p : Partition) (channel : Int) (source : Bool) : Option R92 := zs8 id p channel source (zmO p channel source)
def zAa (p : Partition) (channel : Int) (source : Bool) : R92 := (zCA p channel source).getD default
def zpK (p : Partition) (channel : Int) (source : Bool) : Bool := (zCA p channel source).isSome
theorem zUA (p : Partition) (channel : Int) (source : Bool) (hc : zpK p channel source = true) : Okay Pr GL 92 [.agg (Ty.enc .sPartition p), (zf channel), (zX source)] [] (zIl (zAa p channel source)) := zG (H := H92) (bod := zgQ id p channel source) (ent := zs8 id p channel source) (bodA := zgQ zIl p channel source) (entA := zs8 zIl p channel source) zdV zA Tryz.func92 rfl (by kernel_rfl) zIl zTc (st92 p channel source) (fun J l => by cases l <;> kernel_rfl) (fun J => by kernel_rfl) (fun s l => by cases l <;> simp only [zgQ, zc, zt, zu, id]) (fun s => by simp only [zs8, zc, zt, zu, id]) (ct92 p channel source) (by dsimp only [zs8]; repeat (first | exact ctJ _ | exact ctK _ | apply ctC)) hc
abbrev R94 := Bool
def zIm (r : R94) : zT := ⟨(zX r), []⟩
inductive L94 where | l0 (x0 : Int)
def zTd : L94 -> Nat | .l0 _ => 0
def H94 : zS := htt [] [(0, ⟨z7 [1, 2, 10, 11] 40 0, []⟩)] []
noncomputable def st94 (p : Partition) (t : Int) : L94 -> St | .l0 x0 => stt [(1, (zf t)), (2, .ref 0 0), (10, (zf p.regions.length)), (11, (zf x0))] 40 [.cells 70 (Ty.enc .sPartition p)] 0
noncomputable def zhJ {R : Type} (ret : R94 -> R) (p : Partition) (t : Int) (j : L94 -> Option R) : L94 -> Option R | .l0 x0 =>let y1 := zh p.regions x0.toNat; let y2 := i64.wrap (x0 + 1); let y3 := zN x0 p.regions.length;  cond (decide (x0 < p.regions.length)) (cond y3 ( cond y3 ( cond (decide (((bop .quo .i64 (y1.page) 16) : Int) <= t)) (cond (decide ((t : Int) <= (bop .quo .i64 (i64.wrap ((i64.wrap (y1.page + y1.pages)) - 1)) 16))) (some (ret true)) (j (.l0 y2))) (j (.l0 y2))) none) none) (some (ret false))
noncomputable def zs9 {R : Type} (ret : R94 -> R) (p : Partition) (t : Int) (j : L94 -> Option R) : Option R := j (.l0 0)
theorem ct94 (p : Partition) (t : Int) (l : L94) : CT fun j => zhJ id p t j l := by cases l <;> (dsimp only [zhJ]; repeat (first | exact ctJ _ | exact ctK _ | apply ctC))
def zue (p : Partition) (t : Int) : L94 -> Option R94 := lfp (zhJ id p t)
theorem zuf (p : Partition) (t : Int) (l : L94) : zue p t l = zhJ id p t (zue p t) l := zL (ct94 p t) l
def zun (p : Partition) (t : Int) : Option R94 := zs9 id p t (zue p t)
def zHf (p : Partition) (t : Int) : R94 := (zun p t).getD default
def zx9 (p : Partition) (t : Int) : Bool := (zun p t).isSome
theorem zUC (p : Partition) (t : Int) (hc : zx9 p t = true) : Okay Pr GL 94 [.agg (Ty.enc .sPartition p), (zf t)] [] (zIm (zHf p t)) := zG (H := H94) (bod := zhJ id p t) (ent := zs9 id p t) (bodA := zhJ zIm p t) (entA := zs9 zIm p t) zdV zA Tryz.func94 rfl (by kernel_rfl) zIm zTd (st94 p t) (fun J l => by cases l <;> kernel_rfl) (fun J => by kernel_rfl) (fun s l => by cases l <;> simp only [zhJ, zc, zt, zu, id]) (fun s => by simp only [zs9, zc, zt, zu, id]) (ct94 p t) (by dsimp only [zs9]; repeat (first | exact ctJ _ | exact ctK _ | apply ctC)) hc
abbrev R70 := (List LayoutEnd) × (List LayoutEnd)
def zIf (r : R70) : zT := ⟨.tup [.own 0, .own 1], [.arr 157 .sLayoutEnd r.1, .arr 157 .sLayoutEnd r.2]⟩
inductive L70 where | l0 (x0 : Int) (x1 : List LayoutEnd) (x2 : List LayoutEnd) | l4 (x0 : Int) (x1 : Int) (x2 : List Port) (x3 : Int) (x4 : Int) (x5 : List LayoutEnd) (x6 : List LayoutEnd) | l23 (x2 : Int) (x3 : Int) (x4 : List Port) (x5 : Int) (x6 : Int) (x0 : List LayoutEnd) (x1 : List LayoutEnd)
def zS6 : L70 -> Nat | .l0 _ _ _ => 0 | .l4 _ _ _ _ _ _ _ => 4 | .l23 _ _ _ _ _ _ _ => 23
def H70 : zS := htt [11] [(0, ⟨z7 [1, 4, 5, 11, 12, 13] 50 0, [(.slot 4, .own 157 .sLayoutEnd), (.slot 5, .own 157 .sLayoutEnd)]⟩), (4, ⟨z7 [1, 4, 5, 6, 11, 12, 13, 19, 20, 21] 50 0, [(.slot 4, .own 157 .sLayoutEnd), (.slot 5, .own 157 .sLayoutEnd)]⟩), (23, ⟨z7 [1, 4, 5, 6, 11, 12, 13, 19, 20, 21] 50 0, [(.slot 4, .own 157 .sLayoutEnd), (.slot 5, .own 157 .sLayoutEnd)]⟩)] []
noncomputable def st70 (c : Config) (channel : Int) : L70 -> St | .l0 x0 x1 x2 => stt [(1, (zf channel)), (4, .own 0), (5, .own 1), (11, .sl .sPartition c.partitions), (12, (zf c.partitions.length)), (13, (zf x0))] 50 [.arr 157 .sLayoutEnd x1, .arr 157 .sLayoutEnd x2] 0 | .l4 x0 x1 x2 x3 x4 x5 x6 => stt [(1, (zf channel)), (4, .own 0), (5, .own 1), (6, (zf x0)), (11, .sl .sPartition c.partitions), (12, (zf c.partitions.length)), (13, (zf x1)), (19, .sl .sPort x2), (20, (zf x3)), (21, (zf x4))] 50 [.arr 157 .sLayoutEnd x5, .arr 157 .sLayoutEnd x6] 0 | .l23 x2 x3 x4 x5 x6 x0 x1 => stt [(1, (zf channel)), (4, .own 0), (5, .own 1), (6, (zf x2)), (11, .sl .sPartition c.partitions), (12, (zf c.partitions.length)), (13, (zf x3)), (19, .sl .sPort x4), (20, (zf x5)), (21, (zf x6))] 50 [.arr 157 .sLayoutEnd x0, .arr 157 .sLayoutEnd x1] 0
noncomputable def zfj {R : Type} (ret : R70 -> R) (c : Config) (channel : Int) (j : L70 -> Option R) : L70 -> Option R | .l0 x0 x1 x2 =>let y1 := (za c.partitions x0.toNat).ports;  cond (decide (x0 < c.partitions.length)) (cond (zN x0 c.partitions.length) (j (.l4 x0 x0 y1 (y1.length) 0 x1 x2)) none) (some (ret (x1, x2))) | .l4 x0 x1 x2 x3 x4 x5 x6 =>let y1 := (⟨x0, x4⟩ : LayoutEnd); let y2 := ([y1] : List LayoutEnd); let y3 := (x5 : List LayoutEnd); let y4 := (x6 : List LayoutEnd); let y5 := zaQ x2 x4.toNat;  cond (decide (x4 < x3)) (cond (zN x4 x2.length) ( cond (!((y5.channel : Int) == channel)) (j (.l23 x0 x1 x2 x3 x4 x5 x6)) (cond (y5.source) (cond (leB ((y3.length + y2.length) * 16) 140737488355328) (j (.l23 x0 x1 x2 x3 x4 (y3 ++ [y1]) x6)) none) (cond (leB ((y4.length + y2.length) * 16) 140737488355328) (j (.l23 x0 x1 x2 x3 x4 x5 (y4 ++ [y1]))) none))) none) (j (.l0 (i64.wrap (x1 + 1)) x5 x6)) | .l23 x2 x3 x4 x5 x6 x0 x1 => j (.l4 x2 x3 x4 x5 (i64.wrap (x6 + 1)) x0 x1)
noncomputable def zsR {R : Type} (ret : R70 -> R) (c : Config) (channel : Int) (j : L70 -> Option R) : Option R := j (.l0 0 [] [])
theorem ct70 (c : Config) (channel : Int) (l : L70) : CT fun j => zfj id c channel j l := by cases l <;> (dsimp only [zfj]; repeat (first | exact ctJ _ | exact ctK _ | apply ctC))
def zgT (c : Config) (channel : Int) : L70 -> Option R70 := lfp (zfj id c channel)
theorem zgb (c : Config) (channel : Int) (l : L70) : zgT c channel l = zfj id c channel (zgT c channel) l := zL (ct70 c channel) l
def zCw (c : Config) (channel : Int) : Option R70 := zsR id c channel (zgT c channel)
def ztT (c : Config) (channel : Int) : R70 := (zCw c channel).getD default
def zpI (c : Config) (channel : Int) : Bool := (zCw c channel).isSome
theorem zUe (c : Config) (channel : Int) (hc : zpI c channel = true) : Okay Pr GL 70 [.agg (Ty.enc .sConfig c), (zf channel)] [] (zIf (ztT c channel)) := zG (H := H70) (bod := zfj id c channel) (ent := zsR id c channel) (bodA := zfj zIf c channel) (entA := zsR zIf c channel) zdV zA Tryz.func70 rfl (by kernel_rfl) zIf zS6 (st70 c channel) (fun J l => by cases l <;> kernel_rfl) (fun J => by kernel_rfl) (fun s l => by cases l <;> simp only [zfj, zc, zt, zu, id]) (fun s => by simp only [zsR, zc, zt, zu, id]) (ct70 c channel) (by dsimp only [zsR]; repeat (first | exact ctJ _ | exact ctK _ | apply ctC)) hc
abbrev R63 := Int × Int
def zId (r : R63) : zT := ⟨.tup [(zf r.1), (zf r.2)], []⟩
inductive L63 where | l0 (x0 : Int) | l4 (x1 : Int) (x2 : Int) (x3 : Int) (x0 : Int)
def zS4 : L63 -> Nat | .l0 _ => 0 | .l4 _ _ _ _ => 4
def H63 : zS := htt [] [(0, ⟨z7 [1, 2, 10, 11, 37, 38, 39, 40, 41, 42, 43, 44, 45, 46] 52 0, []⟩), (4, ⟨z7 [1, 2, 6, 10, 11, 20, 21] 52 0, []⟩)] []
noncomputable def st63 (c : Config) (channel : Int) : L63 -> St | .l0 x0 => stt [(1, (zf channel)), (2, .ref 0 0), (10, (zf c.partitions.length)), (11, (zf x0))] 52 [.cells 26 (Ty.enc .sConfig c)] 0 | .l4 x1 x2 x3 x0 => stt [(1, (zf channel)), (2, .ref 0 0), (6, (zf x1)), (10, (zf c.partitions.length)), (11, (zf x2)), (20, (zf x3)), (21, (zf x0))] 52 [.cells 26 (Ty.enc .sConfig c)] 0
noncomputable def zfD {R : Type} (ret : R63 -> R) (c : Config) (channel : Int) (j : L63 -> Option R) : L63 -> Option R | .l0 x0 => cond (decide (x0 < c.partitions.length)) (cond (zN x0 c.partitions.length) (j (.l4 x0 x0 (((za c.partitions x0.toNat).ports).length) 0)) none) (some (ret (0, 0))) | .l4 x1 x2 x3 x0 =>let y1 := (za c.partitions x1.toNat).ports; let y2 := zN x1 c.partitions.length; let y3 := i64.wrap (x0 + 1); let y4 := zaQ y1 x0.toNat;  cond (decide (x0 < x3)) (cond y2 ( cond (zN x0 y1.length) ( cond ((y4.channel : Int) == channel) (cond y2 ( cond (zN x0 y1.length) ( cond (y4.source) (some (ret (x1, x0))) (j (.l4 x1 x2 x3 y3))) none) none) (j (.l4 x1 x2 x3 y3))) none) none) (j (.l0 (i64.wrap (x2 + 1))))
noncomputable def zsL {R : Type} (ret : R63 -> R) (c : Config) (channel : Int) (j : L63 -> Option R) : Option R := j (.l0 0)
theorem ct63 (c : Config) (channel : Int) (l : L63) : CT fun j => zfD id c channel j l := by cases l <;> (dsimp only [zfD]; repeat (first | exact ctJ _ | exact ctK _ | apply ctC))
def zt9 (c : Config) (channel : Int) : L63 -> Option R63 := lfp (zfD id c channel)
theorem ziq (c : Config) (channel : Int) (l : L63) : zt9 c channel l = zfD id c channel (zt9 c channel) l := zL (ct63 c channel) l
def zCv (c : Config) (channel : Int) : Option R63 := zsL id c channel (zt9 c channel)
def zmD (c : Config) (channel : Int) : R63 := (zCv c channel).getD default
def zpH (c : Config) (channel : Int) : Bool := (zCv c channel).isSome
theorem zT7 (c : Config) (channel : Int) (hc : zpH c channel = true) : Okay Pr GL 63 [.agg (Ty.enc .sConfig c), (zf channel)] [] (zId (zmD c channel)) := zG (H := H63) (bod := zfD id c channel) (ent := zsL id c channel) (bodA := zfD zId c channel) (entA := zsL zId c channel) zdV zA Tryz.func63 rfl (by kernel_rfl) zId zS4 (st63 c channel) (fun J l => by cases l <;> kernel_rfl) (fun J => by kernel_rfl) (fun s l => by cases l <;> simp only [zfD, zc, zt, zu, id]) (fun s => by simp only [zsL, zc, zt, zu, id]) (ct63 c channel) (by dsimp only [zsL]; repeat (first | exact ctJ _ | exact ctK _ | apply ctC)) hc
abbrev zzj := AdmitFound
def zyC (r : zzj) : zT := ⟨.agg [(zf r.e), (zf r.where_.first), (zf r.where_.second)], []⟩
inductive zr4 where | l0 (x0 : Int)
def zM5 : zr4 -> Nat | .l0 _ => 0
def H159 : zS := htt [] [(0, ⟨z7 [2, 5, 6, 7] 17 0, []⟩)] []
noncomputable def zVr (l_0 : (List AdmitFound)) : zr4 -> St | .l0 x0 => stt [(2, .ref 0 0), (5, .sl .sAdmitFound l_0), (6, (zf l_0.length)), (7, (zf x0))] 17 [.cells 184 [(zf 0), (zf 0), (zf 0)]] 0
noncomputable def zeI {R : Type} (ret : zzj -> R) (l_0 : (List AdmitFound)) (j : zr4 -> Option R) : zr4 -> Option R | .l0 x0 =>let y1 := zc4 l_0 x0.toNat;  cond (decide (x0 < l_0.length)) (cond (zN x0 l_0.length) ( cond (!(((y1.e : Int) == fine.e) && ((((y1.where_.first : Int) == fine.where_.first) && (((y1.where_.second : Int) == fine.where_.second) && true)) && true))) (some (ret y1)) (j (.l0 (i64.wrap (x0 + 1))))) none) (some (ret fine))
noncomputable def zlQ {R : Type} (ret : zzj -> R) (l_0 : (List AdmitFound)) (j : zr4 -> Option R) : Option R := j (.l0 0)
theorem zJv (l_0 : (List AdmitFound)) (l : zr4) : CT fun j => zeI id l_0 j l := by cases l <;> (dsimp only [zeI]; repeat (first | exact ctJ _ | exact ctK _ | apply ctC))
def zqq (l_0 : (List AdmitFound)) : zr4 -> Option zzj := lfp (zeI id l_0)
theorem zpj (l_0 : (List AdmitFound)) (l : zr4) : zqq l_0 l = zeI id l_0 (zqq l_0) l := zL (zJv l_0) l
def zhs (l_0 : (List AdmitFound)) : Option zzj := zlQ id l_0 (zqq l_0)
def zaK (l_0 : (List AdmitFound)) : zzj := (zhs l_0).getD default
def zaU (l_0 : (List AdmitFound)) : Bool := (zhs l_0).isSome
theorem zN2 (l_0 : (List AdmitFound)) (hc : zaU l_0 = true) : Okay Pr GL 159 [.sl .sAdmitFound l_0] [] (zyC (zaK l_0)) := zG (H := H159) (bod := zeI id l_0) (ent := zlQ id l_0) (bodA := zeI zyC l_0) (entA := zlQ zyC l_0) zdV zA Tryz.func159 rfl (by kernel_rfl) zyC zM5 (zVr l_0) (fun J l => by cases l <;> kernel_rfl) (fun J => by kernel_rfl) (fun s l => by cases l <;> simp only [zeI, zc, zt, zu, id]) (fun s => by simp only [zlQ, zc, zt, zu, id]) (zJv l_0) (by dsimp only [zlQ]; repeat (first | exact ctJ _ | exact ctK _ | apply ctC)) hc
abbrev zzn := Int × Int
def zyG (r : zzn) : zT := ⟨.tup [(zf r.1), (zf r.2)], []⟩
inductive zr8 where | l0 (x1 : Int) (x2 : Int) (x0 : Int) | l4 (x0 : Int) (x1 : Int) (x3 : Int) (x4 : List Port) (x5 : Int) (x2 : Int) | l23 (x0 : Int) (x1 : Int) (x2 : Int) (x3 : List Port) (x4 : Int) (x5 : Int)
def zM9 : zr8 -> Nat | .l0 _ _ _ => 0 | .l4 _ _ _ _ _ _ => 4 | .l23 _ _ _ _ _ _ => 23
def H165 : zS := htt [11] [(0, ⟨z7 [1, 4, 5, 11, 12, 13] 40 0, []⟩), (4, ⟨z7 [1, 4, 5, 11, 12, 13, 18, 19, 20] 40 0, []⟩), (23, ⟨z7 [1, 4, 5, 11, 12, 13, 18, 19, 20] 40 0, []⟩)] []
noncomputable def zVv (c : Config) (h_1 : Int) : zr8 -> St | .l0 x1 x2 x0 => stt [(1, (zf h_1)), (4, (zf x1)), (5, (zf x2)), (11, .sl .sPartition c.partitions), (12, (zf c.partitions.length)), (13, (zf x0))] 40 [] 0 | .l4 x0 x1 x3 x4 x5 x2 => stt [(1, (zf h_1)), (4, (zf x0)), (5, (zf x1)), (11, .sl .sPartition c.partitions), (12, (zf c.partitions.length)), (13, (zf x3)), (18, .sl .sPort x4), (19, (zf x5)), (20, (zf x2))] 40 [] 0 | .l23 x0 x1 x2 x3 x4 x5 => stt [(1, (zf h_1)), (4, (zf x0)), (5, (zf x1)), (11, .sl .sPartition c.partitions), (12, (zf c.partitions.length)), (13, (zf x2)), (18, .sl .sPort x3), (19, (zf x4)), (20, (zf x5))] 40 [] 0
noncomputable def zcV {R : Type} (ret : zzn -> R) (c : Config) (h_1 : Int) (j : zr8 -> Option R) : zr8 -> Option R | .l0 x1 x2 x0 =>let y1 := (za c.partitions x0.toNat).ports;  cond (decide (x0 < c.partitions.length)) (cond (zN x0 c.partitions.length) (j (.l4 x1 x2 x0 y1 (y1.length) 0)) none) (some (ret (x1, x2))) | .l4 x0 x1 x3 x4 x5 x2 =>let y1 := zaQ x4 x2.toNat;  cond (decide (x2 < x5)) (cond (zN x2 x4.length) ( cond (!((y1.channel : Int) == h_1)) (j (.l23 x0 x1 x3 x4 x5 x2)) (cond (y1.source) (j (.l23 (i64.wrap (x0 + 1)) x1 x3 x4 x5 x2)) (j (.l23 x0 (i64.wrap (x1 + 1)) x3 x4 x5 x2)))) none) (j (.l0 x0 x1 (i64.wrap (x3 + 1)))) | .l23 x0 x1 x2 x3 x4 x5 => j (.l4 x0 x1 x2 x3 x4 (i64.wrap (x5 + 1)))
noncomputable def zlU {R : Type} (ret : zzn -> R) (c : Config) (h_1 : Int) (j : zr8 -> Option R) : Option R := j (.l0 0 0 0)
theorem zJz (c : Config) (h_1 : Int) (l : zr8) : CT fun j => zcV id c h_1 j l := by cases l <;> (dsimp only [zcV]; repeat (first | exact ctJ _ | exact ctK _ | apply ctC))
def zd7 (c : Config) (h_1 : Int) : zr8 -> Option zzn := lfp (zcV id c h_1)
theorem zet (c : Config) (h_1 : Int) (l : zr8) : zd7 c h_1 l = zcV id c h_1 (zd7 c h_1) l := zL (zJz c h_1) l
def zvE (c : Config) (h_1 : Int) : Option zzn := zlU id c h_1 (zd7 c h_1)
def zpb (c : Config) (h_1 : Int) : zzn := (zvE c h_1).getD default
def zrt (c : Config) (h_1 : Int) : Bool := (zvE c h_1).isSome
theorem zN8 (c : Config) (h_1 : Int) (hc : zrt c h_1 = true) : Okay Pr GL 165 [.agg (Ty.enc .sConfig c), (zf h_1)] [] (zyG (zpb c h_1)) := zG (H := H165) (bod := zcV id c h_1) (ent := zlU id c h_1) (bodA := zcV zyG c h_1) (entA := zlU zyG c h_1) zdV zA Tryz.func165 rfl (by kernel_rfl) zyG zM9 (zVv c h_1) (fun J l => by cases l <;> kernel_rfl) (fun J => by kernel_rfl) (fun s l => by cases l <;> simp only [zcV, zc, zt, zu, id]) (fun s => by simp only [zlU, zc, zt, zu, id]) (zJz c h_1) (by dsimp only [zlU]; repeat (first | exact ctJ _ | exact ctK _ | apply ctC)) hc
abbrev zzo := Bool
def zyH (r : zzo) : zT := ⟨(zX r), []⟩
inductive zr9 where | l0 (x0 : Int) | l4 (x1 : Int) (x2 : List Window) (x3 : Int) (x0 : Int)
def zNa : zr9 -> Nat | .l0 _ => 0 | .l4 _ _ _ _ => 4
def H166 : zS := htt [] [(0, ⟨z7 [2, 14, 15, 16, 29, 30, 31, 32] 36 0, []⟩), (4, ⟨z7 [2, 14, 15, 16, 20, 21, 22] 36 0, []⟩)] []
noncomputable def zVw (c : Config) (k : Int) (p : Int) : zr9 -> St | .l0 x0 => stt [(2, (zf p)), (14, .sl (.sl .sWindow) ((c.cores.take k.toNat).drop 0)), (15, (zf (((c.cores.take k.toNat).drop 0).length))), (16, (zf x0))] 36 [] 0 | .l4 x1 x2 x3 x0 => stt [(2, (zf p)), (14, .sl (.sl .sWindow) ((c.cores.take k.toNat).drop 0)), (15, (zf (((c.cores.take k.toNat).drop 0).length))), (16, (zf x1)), (20, .sl .sWindow x2), (21, (zf x3)), (22, (zf x0))] 36 [] 0
noncomputable def zdo {R : Type} (ret : zzo -> R) (c : Config) (k : Int) (p : Int) (j : zr9 -> Option R) : zr9 -> Option R | .l0 x0 =>let y1 := (c.cores.take k.toNat).drop 0; let y2 := zK y1 x0.toNat;  cond (decide (x0 < y1.length)) (cond (zN x0 y1.length) ( j (.l4 x0 y2 (y2.length) 0)) none) (some (ret false)) | .l4 x1 x2 x3 x0 =>let y1 := i64.wrap (x0 + 1);  cond (decide (x0 < x3)) (cond (zN x0 x2.length) ( cond (decide ((p : Int) >= 0)) (cond (((zcc x2 x0.toNat).partition : Int) == p) (some (ret true)) (j (.l4 x1 x2 x3 y1))) (j (.l4 x1 x2 x3 y1))) none) (j (.l0 (i64.wrap (x1 + 1))))
noncomputable def zjc {R : Type} (ret : zzo -> R) (c : Config) (k : Int) (p : Int) (j : zr9 -> Option R) : Option R := cond (inS 0 k c.cores.length) (j (.l0 0)) none
theorem zJA (c : Config) (k : Int) (p : Int) (l : zr9) : CT fun j => zdo id c k p j l := by cases l <;> (dsimp only [zdo]; repeat (first | exact ctJ _ | exact ctK _ | apply ctC))
def zf9 (c : Config) (k : Int) (p : Int) : zr9 -> Option zzo := lfp (zdo id c k p)
theorem zgD (c : Config) (k : Int) (p : Int) (l : zr9) : zf9 c k p l = zdo id c k p (zf9 c k p) l := zL (zJA c k p) l
def zq2 (c : Config) (k : Int) (p : Int) : Option zzo := zjc id c k p (zf9 c k p)
def zwI (c : Config) (k : Int) (p : Int) : zzo := (zq2 c k p).getD default
def zng (c : Config) (k : Int) (p : Int) : Bool := (zq2 c k p).isSome
theorem zN9 (c : Config) (k : Int) (p : Int) (hc : zng c k p = true) : Okay Pr GL 166 [.agg (Ty.enc .sConfig c), (zf k), (zf p)] [] (zyH (zwI c k p)) := zG (H := H166) (bod := zdo id c k p) (ent := zjc id c k p) (bodA := zdo zyH c k p) (entA := zjc zyH c k p) zdV zA Tryz.func166 rfl (by kernel_rfl) zyH zNa (zVw c k p) (fun J l => by cases l <;> kernel_rfl) (fun J => by kernel_rfl) (fun s l => by cases l <;> simp only [zdo, zc, zt, zu, id]) (fun s => by simp only [zjc, zc, zt, zu, id]) (zJA c k p) (by dsimp only [zjc]; repeat (first | exact ctJ _ | exact ctK _ | apply ctC)) hc
abbrev zy7 := Bool
def zyq (r : zy7) : zT := ⟨(zX r), []⟩
inductive zrS where | l0 (x0 : Int) | l4 (x0 : Int)
def zMT : zrS -> Nat | .l0 _ => 0 | .l4 _ => 4
def H114 : zS := htt [] [(0, ⟨z7 [2, 3, 20, 21, 22, 59, 60, 61, 62, 63, 64] 67 0, []⟩), (4, ⟨z7 [2, 49, 50, 51] 67 0, []⟩)] []
noncomputable def zVf (c : Config) (x : Partition) : zrS -> St | .l0 x0 => stt [(2, .ref 0 0), (3, .ref 1 0), (20, .sl .sRegion x.regions), (21, (zf x.regions.length)), (22, (zf x0))] 67 [.cells 26 (Ty.enc .sConfig c), .cells 70 (Ty.enc .sPartition x)] 0 | .l4 x0 => stt [(2, .ref 0 0), (49, .sl .sPort x.ports), (50, (zf x.ports.length)), (51, (zf x0))] 67 [.cells 26 (Ty.enc .sConfig c)] 0
noncomputable def zdk {R : Type} (ret : zy7 -> R) (c : Config) (x : Partition) (j : zrS -> Option R) : zrS -> Option R | .l0 x0 =>let y1 := zh x.regions x0.toNat;  cond (decide (x0 < x.regions.length)) (cond (zN x0 x.regions.length) ( cond (decide ((y1.page : Int) < 0)) (some (ret false)) (cond (decide ((y1.page : Int) > 256)) (some (ret false)) (cond (decide ((y1.pages : Int) < 1)) (some (ret false)) (cond (decide ((y1.pages : Int) > (i64.wrap (256 - y1.page)))) (some (ret false)) (j (.l0 (i64.wrap (x0 + 1)))))))) none) (j (.l4 0)) | .l4 x0 =>let y1 := ((zaQ x.ports x0.toNat).channel : Int);  cond (decide (x0 < x.ports.length)) (cond (zN x0 x.ports.length) ( cond (decide (y1 < 0)) (some (ret false)) (cond (decide (y1 >= c.channels.length)) (some (ret false)) (j (.l4 (i64.wrap (x0 + 1)))))) none) (some (ret true))
noncomputable def ziQ {R : Type} (ret : zy7 -> R) (c : Config) (x : Partition) (j : zrS -> Option R) : Option R := cond (decide ((x.regions.length : Int) > 8)) (some (ret false)) (cond (decide ((x.ports.length : Int) > 8)) (some (ret false)) (j (.l0 0)))
theorem zJj (c : Config) (x : Partition) (l : zrS) : CT fun j => zdk id c x j l := by cases l <;> (dsimp only [zdk]; repeat (first | exact ctJ _ | exact ctK _ | apply ctC))
def zmI (c : Config) (x : Partition) : zrS -> Option zy7 := lfp (zdk id c x)
theorem zgz (c : Config) (x : Partition) (l : zrS) : zmI c x l = zdk id c x (zmI c x) l := zL (zJj c x) l
def zqC (c : Config) (x : Partition) : Option zy7 := ziQ id c x (zmI c x)
def zwB (c : Config) (x : Partition) : zy7 := (zqC c x).getD default
def zrc (c : Config) (x : Partition) : Bool := (zqC c x).isSome
theorem zNv (c : Config) (x : Partition) (hc : zrc c x = true) : Okay Pr GL 114 [.agg (Ty.enc .sConfig c), .agg (Ty.enc .sPartition x)] [] (zyq (zwB c x)) := zG (H := H114) (bod := zdk id c x) (ent := ziQ id c x) (bodA := zdk zyq c x) (entA := ziQ zyq c x) zdV zA Tryz.func114 rfl (by kernel_rfl) zyq zMT (zVf c x) (fun J l => by cases l <;> kernel_rfl) (fun J => by kernel_rfl) (fun s l => by cases l <;> simp only [zdk, zc, zt, zu, id]) (fun s => by simp only [ziQ, zc, zt, zu, id]) (zJj c x) (by dsimp only [ziQ]; repeat (first | exact ctJ _ | exact ctK _ | apply ctC)) hc
abbrev zzs := Bool
def zyL (r : zzs) : zT := ⟨(zX r), []⟩
inductive zsd where | l0 (x0 : Int)
def zNe : zsd -> Nat | .l0 _ => 0
def H173 : zS := htt [] [(0, ⟨z7 [0, 24, 25] 50 0, []⟩)] []
noncomputable def zVA (s_0 : ByteArray) : zsd -> St | .l0 x0 => stt [(0, .v (.string s_0)), (24, (zf s_0.size)), (25, (zf x0))] 50 [] 0
noncomputable def zeN {R : Type} (ret : zzs -> R) (s_0 : ByteArray) (j : zsd -> Option R) : zsd -> Option R | .l0 x0 =>let y1 := ((zbT s_0 x0.toNat) : Int); let y2 := i64.wrap (x0 + 1); let y3 := !(y1 == 45);  cond (decide (x0 < s_0.size)) (cond (zN x0 s_0.size) ( cond (decide (y1 < 97)) (cond (decide (y1 < 48)) (cond y3 (some (ret false)) (j (.l0 y2))) (cond (decide (y1 > 57)) (cond y3 (some (ret false)) (j (.l0 y2))) (j (.l0 y2)))) (cond (decide (y1 > 122)) (cond (decide (y1 < 48)) (cond y3 (some (ret false)) (j (.l0 y2))) (cond (decide (y1 > 57)) (cond y3 (some (ret false)) (j (.l0 y2))) (j (.l0 y2)))) (j (.l0 y2)))) none) (some (ret true))
noncomputable def zje {R : Type} (ret : zzs -> R) (s_0 : ByteArray) (j : zsd -> Option R) : Option R := cond (decide ((s_0.size : Int) < 1)) (some (ret false)) (cond (decide ((s_0.size : Int) > 16)) (some (ret false)) (cond (zN 0 s_0.size) ( cond (decide (((zbT s_0 0) : Int) < 97)) (some (ret false)) (cond (zN 0 s_0.size) (cond (decide (((zbT s_0 0) : Int) > 122)) (some (ret false)) (j (.l0 0))) none)) none))
theorem zJE (s_0 : ByteArray) (l : zsd) : CT fun j => zeN id s_0 j l := by cases l <;> (dsimp only [zeN]; repeat (first | exact ctJ _ | exact ctK _ | apply ctC))
def zmN (s_0 : ByteArray) : zsd -> Option zzs := lfp (zeN id s_0)
theorem zpo (s_0 : ByteArray) (l : zsd) : zmN s_0 l = zeN id s_0 (zmN s_0) l := zL (zJE s_0) l
def zq5 (s_0 : ByteArray) : Option zzs := zje id s_0 (zmN s_0)
def ztQ (s_0 : ByteArray) : zzs := (zq5 s_0).getD default
def zni (s_0 : ByteArray) : Bool := (zq5 s_0).isSome
theorem zOg (s_0 : ByteArray) (hc : zni s_0 = true) : Okay Pr GL 173 [.v (.string s_0)] [] (zyL (ztQ s_0)) := zG (H := H173) (bod := zeN id s_0) (ent := zje id s_0) (bodA := zeN zyL s_0) (entA := zje zyL s_0) zdV zA Tryz.func173 rfl (by kernel_rfl) zyL zNe (zVA s_0) (fun J l => by cases l <;> kernel_rfl) (fun J => by kernel_rfl) (fun s l => by cases l <;> simp only [zeN, zc, zt, zu, id]) (fun s => by simp only [zje, zc, zt, zu, id]) (zJE s_0) (by dsimp only [zje]; repeat (first | exact ctJ _ | exact ctK _ | apply ctC)) hc
abbrev R97 := (List LayoutPiece)
def zPw (r : R97) : zT := ⟨.tup [], [.cells 124 [.own 2], .dead, .arr 127 .sLayoutPiece r]⟩
noncomputable def zwb {R : Type} (ret : R97 -> R) (a1 : Int) (a2 : Int) (a3 : Int) (a4 : Int) (a5 : Int) (xs : List LayoutPiece) : Option R := cond (leB (((xs : List LayoutPiece).length + ([(⟨a1, a2, (⟨a3, a4, a5⟩ : Owner)⟩ : LayoutPiece)] : List LayoutPiece).length) * 40) 140737488355328) (some (ret ((xs : List LayoutPiece) ++ [(⟨a1, a2, (⟨a3, a4, a5⟩ : Owner)⟩ : LayoutPiece)]))) none
def zJ6 (a1 : Int) (a2 : Int) (a3 : Int) (a4 : Int) (a5 : Int) (xs : List LayoutPiece) : Option R97 := zwb id a1 a2 a3 a4 a5 xs
def znP (a1 : Int) (a2 : Int) (a3 : Int) (a4 : Int) (a5 : Int) (xs : List LayoutPiece) : R97 := (zJ6 a1 a2 a3 a4 a5 xs).getD default
def zgV (a1 : Int) (a2 : Int) (a3 : Int) (a4 : Int) (a5 : Int) (xs : List LayoutPiece) : Bool := (zJ6 a1 a2 a3 a4 a5 xs).isSome
theorem zUF (a1 : Int) (a2 : Int) (a3 : Int) (a4 : Int) (a5 : Int) (xs : List LayoutPiece) (hc : zgV a1 a2 a3 a4 a5 xs = true) : Okay Pr GL 97 [(zf a1), (zf a2), (zf a3), (zf a4), (zf a5), .ref 0 0] [.cells 124 [.own 1], .arr 127 .sLayoutPiece xs] (zPw (znP a1 a2 a3 a4 a5 xs)) := zy (H := H57) (ent := zwb id a1 a2 a3 a4 a5 xs) (entA := zwb zPw a1 a2 a3 a4 a5 xs) zdV zA Tryz.func97 rfl (by kernel_rfl) zPw (fun J => by kernel_rfl) (by simp only [zwb, zc, zt, zu, id]) hc
abbrev R28 := Bool
def zOX (r : R28) : zT := ⟨(zX r), []⟩
noncomputable def zv9 {R : Type} (ret : R28 -> R) (s_0 : (List Owner)) (v : Owner) : Option R := cond (zCI s_0 v) (some (ret (decide (((zON s_0 v) : Int) >= 0)))) none
def zJZ (s_0 : (List Owner)) (v : Owner) : Option R28 := zv9 id s_0 v
def sp28 (s_0 : (List Owner)) (v : Owner) : R28 := (zJZ s_0 v).getD default
def zKb (s_0 : (List Owner)) (v : Owner) : Bool := (zJZ s_0 v).isSome
theorem zTz (s_0 : (List Owner)) (v : Owner) (hc : zKb s_0 v = true) : Okay Pr GL 28 [.sl .sOwner s_0, .agg (Ty.enc .sOwner v)] [] (zOX (sp28 s_0 v)) := zy (H := H57) (ent := zv9 id s_0 v) (entA := zv9 zOX s_0 v) zdV zA Tryz.func28 rfl (by kernel_rfl) zOX (fun J => by kernel_rfl) (by simp only [zv9, zc, zt, zu, id]) hc
abbrev R43 := Bool
def zH1 (r : R43) : zT := ⟨(zX r), []⟩
inductive L43 where | l0 (x0 : Int)
def zSS : L43 -> Nat | .l0 _ => 0
def H43 : zS := htt [] [(0, ⟨z7 [1, 2, 5] 19 0, []⟩)] []
noncomputable def st43 (p : Partition) (program : (List Int)) : L43 -> St | .l0 x0 => stt [(1, .sl (.i .u32) program), (2, .ref 0 0), (5, (zf x0))] 19 [.cells 70 (Ty.enc .sPartition p)] 0
noncomputable def zn1 {R : Type} (ret : R43 -> R) (p : Partition) (program : (List Int)) (j : L43 -> Option R) : L43 -> Option R | .l0 x0 => cond (decide (x0 < program.length)) (cond (zpJ p x0) (cond (decide (((ztW p x0) : Int) < 0)) (some (ret false)) (j (.l0 (i64.wrap (x0 + 16))))) none) (some (ret true))
noncomputable def zsD {R : Type} (ret : R43 -> R) (p : Partition) (program : (List Int)) (j : L43 -> Option R) : Option R := cond (decide ((program.length : Int) > 1024)) (some (ret false)) (j (.l0 0))
theorem ct43 (p : Partition) (program : (List Int)) (l : L43) : CT fun j => zn1 id p program j l := by cases l <;> (dsimp only [zn1]; repeat (first | exact ctJ _ | exact ctK _ | apply ctC))
def zUZ (p : Partition) (program : (List Int)) : L43 -> Option R43 := lfp (zn1 id p program)
def zJ0 (p : Partition) (program : (List Int)) : Option R43 := zsD id p program (zUZ p program)
def zOL (p : Partition) (program : (List Int)) : R43 := (zJ0 p program).getD default
def zCE (p : Partition) (program : (List Int)) : Bool := (zJ0 p program).isSome
theorem zTO (p : Partition) (program : (List Int)) (hc : zCE p program = true) : Okay Pr GL 43 [.agg (Ty.enc .sPartition p), .sl (.i .u32) program] [] (zH1 (zOL p program)) := zG (H := H43) (bod := zn1 id p program) (ent := zsD id p program) (bodA := zn1 zH1 p program) (entA := zsD zH1 p program) zdV zA Tryz.func43 rfl (by kernel_rfl) zH1 zSS (st43 p program) (fun J l => by cases l <;> kernel_rfl) (fun J => by kernel_rfl) (fun s l => by cases l <;> simp only [zn1, zc, zt, zu, id]) (fun s => by simp only [zsD, zc, zt, zu, id]) (ct43 p program) (by dsimp only [zsD]; repeat (first | exact ctJ _ | exact ctK _ | apply ctC)) hc
abbrev R44 := (List Int)
def zH2 (r : R44) : zT := ⟨.tup [], [.arr 57 (.i .u32) r]⟩
inductive L44 where | l0 (x1 : Int) (x0 : Int) (x2 : List Int) | l4 (x4 : Int) (x3 : Int) (x1 : Bool) (x0 : Int) (x2 : List Int) | l9 (x0 : Int) (x1 : Int) (x2 : List Int)
def zST : L44 -> Nat | .l0 _ _ _ => 0 | .l4 _ _ _ _ _ => 4 | .l9 _ _ _ => 9
def H44 : zS := htt [4] [(0, ⟨z7 [0, 4, 5, 6, 7] 62 0, []⟩), (4, ⟨z7 [0, 4, 5, 6, 7, 8, 9] 62 0, []⟩), (9, ⟨z7 [0, 4, 5, 6, 7] 62 0, []⟩)] []
noncomputable def st44 (p : Partition) (pl : PartitionPlace) (m : List Int) : L44 -> St | .l0 x1 x0 x2 => stt [(0, .own 0), (4, .ref 1 0), (5, .ref 2 0), (6, (zf x1)), (7, (zf x0))] 62 [.arr 57 (.i .u32) x2, .cells 70 (Ty.enc .sPartition p), .cells 89 (Ty.enc .sPartitionPlace pl)] 1 | .l4 x4 x3 x1 x0 x2 => stt [(0, .own 0), (4, .ref 1 0), (5, .ref 2 0), (6, (zf x4)), (7, (zf x3)), (8, (zX x1)), (9, (zf x0))] 62 [.arr 57 (.i .u32) x2, .cells 70 (Ty.enc .sPartition p), .cells 89 (Ty.enc .sPartitionPlace pl)] 1 | .l9 x0 x1 x2 => stt [(0, .own 0), (4, .ref 1 0), (5, .ref 2 0), (6, (zf x0)), (7, (zf x1))] 62 [.arr 57 (.i .u32) x2, .cells 70 (Ty.enc .sPartition p), .cells 89 (Ty.enc .sPartitionPlace pl)] 1
noncomputable def zed {R : Type} (ret : R44 -> R) (p : Partition) (pl : PartitionPlace) (m : List Int) (j : L44 -> Option R) : L44 -> Option R | .l0 x1 x0 x2 => cond (decide (x0 < 16)) (j (.l4 x1 x0 false 0 x2)) (some (ret x2)) | .l4 x4 x3 x1 x0 x2 =>let y1 := i64.wrap ((i64.wrap (x3 * 16)) + x0); let y2 := i64.wrap ((i64.wrap (zx pl.tables x4.toNat * 16)) + x0); let y3 := i64.wrap ((i64.wrap (pl.root * 16)) + x3); let y4 := i64.wrap (y1 * 16); let y5 := i64.wrap (x0 + 1); let y6 := zN x4 pl.tables.length;  cond (decide (x0 < 16)) (cond (zpJ p y4) ( cond (decide (((ztW p y4) : Int) < 0)) (j (.l4 x4 x3 x1 y5 x2)) (cond y6 ( cond (zx7 p y1) ( cond (zN y2 x2.length) ( j (.l4 x4 x3 true y5 (List.set x2 (y2.toNat) (ztX (bop .quo .i64 (ztW p y4) 16) (zHd p y1))))) none) none) none)) none) (cond x1 (cond y6 ( cond (zN y3 x2.length) ( j (.l9 (i64.wrap (x4 + 1)) x3 (List.set x2 (y3.toNat) (ztX (zx pl.tables x4.toNat) 0)))) none) none) (j (.l9 x4 x3 x2))) | .l9 x0 x1 x2 => j (.l0 x0 (i64.wrap (x1 + 1)) x2)
noncomputable def zol {R : Type} (ret : R44 -> R) (p : Partition) (pl : PartitionPlace) (m : List Int) (j : L44 -> Option R) : Option R := j (.l0 0 0 m)
theorem ct44 (p : Partition) (pl : PartitionPlace) (m : List Int) (l : L44) : CT fun j => zed id p pl m j l := by cases l <;> (dsimp only [zed]; repeat (first | exact ctJ _ | exact ctK _ | apply ctC))
def zin (p : Partition) (pl : PartitionPlace) (m : List Int) : L44 -> Option R44 := lfp (zed id p pl m)
theorem zev (p : Partition) (pl : PartitionPlace) (m : List Int) (l : L44) : zin p pl m l = zed id p pl m (zin p pl m) l := zL (ct44 p pl m) l
def zxb (p : Partition) (pl : PartitionPlace) (m : List Int) : Option R44 := zol id p pl m (zin p pl m)
def zCj (p : Partition) (pl : PartitionPlace) (m : List Int) : R44 := (zxb p pl m).getD default
def zxP (p : Partition) (pl : PartitionPlace) (m : List Int) : Bool := (zxb p pl m).isSome
theorem zTP (p : Partition) (pl : PartitionPlace) (m : List Int) (hc : zxP p pl m = true) : Okay Pr GL 44 [.own 0, .agg (Ty.enc .sPartition p), .agg (Ty.enc .sPartitionPlace pl)] [.arr 57 (.i .u32) m] (zH2 (zCj p pl m)) := zG (H := H44) (bod := zed id p pl m) (ent := zol id p pl m) (bodA := zed zH2 p pl m) (entA := zol zH2 p pl m) zdV zA Tryz.func44 rfl (by kernel_rfl) zH2 zST (st44 p pl m) (fun J l => by cases l <;> kernel_rfl) (fun J => by kernel_rfl) (fun s l => by cases l <;> simp only [zed, zc, zt, zu, id]) (fun s => by simp only [zol, zc, zt, zu, id]) (ct44 p pl m) (by dsimp only [zol]; repeat (first | exact ctJ _ | exact ctK _ | apply ctC)) hc
abbrev R45 := (List Int)
def zH3 (r : R45) : zT := ⟨.tup [], [.arr 57 (.i .u32) r]⟩
inductive L45 where | l0 (x0 : Int) (x1 : List Int)
def zSU : L45 -> Nat | .l0 _ _ => 0
def H45 : zS := htt [] [(0, ⟨z7 [0, 2, 4, 6] 22 0, []⟩)] []
noncomputable def st45 (p : Partition) (program : (List Int)) (m : List Int) : L45 -> St | .l0 x0 x1 => stt [(0, .own 0), (2, .sl (.i .u32) program), (4, .ref 1 0), (6, (zf x0))] 22 [.arr 57 (.i .u32) x1, .cells 70 (Ty.enc .sPartition p)] 1
noncomputable def zn2 {R : Type} (ret : R45 -> R) (p : Partition) (program : (List Int)) (m : List Int) (j : L45 -> Option R) : L45 -> Option R | .l0 x0 x1 => cond (decide (x0 < program.length)) (cond (zpJ p x0) ( cond (zN x0 program.length) ( cond (zN (ztW p x0) x1.length) (j (.l0 (i64.wrap (x0 + 1)) (List.set x1 ((ztW p x0).toNat) (zx program x0.toNat)))) none) none) none) (some (ret x1))
noncomputable def zsE {R : Type} (ret : R45 -> R) (p : Partition) (program : (List Int)) (m : List Int) (j : L45 -> Option R) : Option R := j (.l0 0 m)
theorem ct45 (p : Partition) (program : (List Int)) (m : List Int) (l : L45) : CT fun j => zn2 id p program m j l := by cases l <;> (dsimp only [zn2]; repeat (first | exact ctJ _ | exact ctK _ | apply ctC))
def zU0 (p : Partition) (program : (List Int)) (m : List Int) : L45 -> Option R45 := lfp (zn2 id p program m)
def zJ1 (p : Partition) (program : (List Int)) (m : List Int) : Option R45 := zsE id p program m (zU0 p program m)
def zOM (p : Partition) (program : (List Int)) (m : List Int) : R45 := (zJ1 p program m).getD default
def zCF (p : Partition) (program : (List Int)) (m : List Int) : Bool := (zJ1 p program m).isSome
theorem zTQ (p : Partition) (program : (List Int)) (m : List Int) (hc : zCF p program m = true) : Okay Pr GL 45 [.own 0, .agg (Ty.enc .sPartition p), .sl (.i .u32) program] [.arr 57 (.i .u32) m] (zH3 (zOM p program m)) := zG (H := H45) (bod := zn2 id p program m) (ent := zsE id p program m) (bodA := zn2 zH3 p program m) (entA := zsE zH3 p program m) zdV zA Tryz.func45 rfl (by kernel_rfl) zH3 zSU (st45 p program m) (fun J l => by cases l <;> kernel_rfl) (fun J => by kernel_rfl) (fun s l => by cases l <;> simp only [zn2, zc, zt, zu, id]) (fun s => by simp only [zsE, zc, zt, zu, id]) (ct45 p program m) (by dsimp only [zsE]; repeat (first | exact ctJ _ | exact ctK _ | apply ctC)) hc
abbrev R86 := Int × Int
def zPs (r : R86) : zT := ⟨.tup [(avU r.1), (zf r.2)], []⟩
noncomputable def zs4 {R : Type} (ret : R86 -> R) (m : (Option MemMemory)) (at_1 : Int) : Option R := cond (zgf m at_1 1) ( cond (!(((zfp m at_1 1) : Int) == 0)) (some (ret (0, (zfp m at_1 1)))) (cond m.isSome (cond (zN at_1 ((m.getD default).words).length) (some (ret (zx ((m.getD default).words) at_1.toNat, 0))) none) none)) none
def zxy (m : (Option MemMemory)) (at_1 : Int) : Option R86 := zs4 id m at_1
def zjA (m : (Option MemMemory)) (at_1 : Int) : R86 := (zxy m at_1).getD default
def zgh (m : (Option MemMemory)) (at_1 : Int) : Bool := (zxy m at_1).isSome
theorem zUu (m : (Option MemMemory)) (at_1 : Int) (hc : zgh m at_1 = true) : Okay Pr GL 86 [.op .sMemMemory m, (zf at_1)] [] (zPs (zjA m at_1)) := zy (H := H57) (ent := zs4 id m at_1) (entA := zs4 zPs m at_1) zdV zA Tryz.func86 rfl (by kernel_rfl) zPs (fun J => by kernel_rfl) (by simp only [zs4, zc, zt, zu, id]) hc
abbrev R7 := (Option MemMemory) × Int
def to7 (r : R7) : zT := ⟨.tup [.op .sMemMemory r.1, (zf r.2)], []⟩
def H7 : zS := ⟨fun _ => false, fun _ => ⟨[], []⟩, [(.slot 0, .op .sMemMemory)], G0, zc7⟩
noncomputable def zA9 {R : Type} (ret : R7 -> R) (words : (List Int)) : Option R := cond (decide ((words.length : Int) > 16384)) (some (ret (none, 2))) (cond ((words.length : Int) == 0) (some (ret (none, 50))) (cond (!(((bop .rem .i64 words.length 16) : Int) == 0)) (some (ret (none, 50))) (cond (znl words) (some (ret ((some (⟨(zvm words)⟩ : MemMemory)), 0))) none)))
def zHj (words : (List Int)) : Option R7 := zA9 id words
def sp7 (words : (List Int)) : R7 := (zHj words).getD default
def zHn (words : (List Int)) : Bool := (zHj words).isSome
theorem oks7 (words : (List Int)) (hc : zHn words = true) : Okay Pr GL 7 [.sl (.i .u32) words] [] (to7 (sp7 words)) := zy (H := H7) (ent := zA9 id words) (entA := zA9 to7 words) zdV zA Tryz.func7 rfl (by kernel_rfl) to7 (fun J => by kernel_rfl) (by simp only [zA9, zc, zt, zu, id]) hc
def g9 := zJ (zH (rdS .sConfig) fun a0 => zI ((zHp a0), .agg [(zf ((sp9 a0).frames)), (zf ((sp9 a0).major)), (zf ((sp9 a0).kernel)), (zf ((sp9 a0).room)), .own 0, .own 1, .own 2], [.arr 66 (.sl .sWindow) ((sp9 a0).cores), .arr 70 .sPartition ((sp9 a0).partitions), .arr 97 .sChannel ((sp9 a0).channels)]))
theorem zSo : zD 9 g9 := zk (zB Tryz.func9 (by kernel_rfl) rfl) (zg fun x0 a0 h0 => zj fun hb => (oks9 a0 hb).ats (.cons (zP h0) .nil))
def g54 := zJ (zH (rdS .sConfig) fun a0 => zH (zZ (.i .i64)) fun a1 => zI ((zCH a0 a1), .tup [(zf ((zCm a0 a1).1)), (zX ((zCm a0 a1).2))], []))
theorem zLK : zD 54 g54 := zk (zB Tryz.func54 (by kernel_rfl) rfl) (zg fun x0 a0 h0 => zg fun x1 a1 h1 => zj fun hb => (zTY a0 a1 hb).ats (.cons (zP h0) (.cons (zp h1) .nil)))
def g147 := zJ (zH (zZ .s) fun a0 => zI ((znb a0), (zX (ztO a0)), []))
theorem zFL : zD 147 g147 := zk (zB Tryz.func147 (by kernel_rfl) rfl) (zg fun x0 a0 h0 => zj fun hb => (zNQ a0 hb).ats (.cons (zp h0) .nil))
def g90 := zJ (zH (rdS .sPartition) fun a0 => zH (zZ (.i .i64)) fun a1 => zI ((zx8 a0 a1), (zX (zHe a0 a1)), []))
theorem zMk : zD 90 g90 := zk (zB Tryz.func90 (by kernel_rfl) rfl) (zg fun x0 a0 h0 => zg fun x1 a1 h1 => zj fun hb => (zUy a0 a1 hb).ats (.cons (zP h0) (.cons (zp h1) .nil)))
def g92 := zJ (zH (rdS .sPartition) fun a0 => zH (zZ (.i .i64)) fun a1 => zH (zZ .b) fun a2 => zI ((zpK a0 a1 a2), (zf (zAa a0 a1 a2)), []))
theorem zMm : zD 92 g92 := zk (zB Tryz.func92 (by kernel_rfl) rfl) (zg fun x0 a0 h0 => zg fun x1 a1 h1 => zg fun x2 a2 h2 => zj fun hb => (zUA a0 a1 a2 hb).ats (.cons (zP h0) (.cons (zp h1) (.cons (zp h2) .nil))))
def g94 := zJ (zH (rdS .sPartition) fun a0 => zH (zZ (.i .i64)) fun a1 => zI ((zx9 a0 a1), (zX (zHf a0 a1)), []))
theorem zMo : zD 94 g94 := zk (zB Tryz.func94 (by kernel_rfl) rfl) (zg fun x0 a0 h0 => zg fun x1 a1 h1 => zj fun hb => (zUC a0 a1 hb).ats (.cons (zP h0) (.cons (zp h1) .nil)))
def g70 := zJ (zH (rdS .sConfig) fun a0 => zH (zZ (.i .i64)) fun a1 => zI ((zpI a0 a1), .tup [.own 0, .own 1], [.arr 157 .sLayoutEnd ((ztT a0 a1).1), .arr 157 .sLayoutEnd ((ztT a0 a1).2)]))
theorem zL0 : zD 70 g70 := zk (zB Tryz.func70 (by kernel_rfl) rfl) (zg fun x0 a0 h0 => zg fun x1 a1 h1 => zj fun hb => (zUe a0 a1 hb).ats (.cons (zP h0) (.cons (zp h1) .nil)))
def g63 := zJ (zH (rdS .sConfig) fun a0 => zH (zZ (.i .i64)) fun a1 => zI ((zpH a0 a1), .tup [(zf ((zmD a0 a1).1)), (zf ((zmD a0 a1).2))], []))
theorem zLT : zD 63 g63 := zk (zB Tryz.func63 (by kernel_rfl) rfl) (zg fun x0 a0 h0 => zg fun x1 a1 h1 => zj fun hb => (zT7 a0 a1 hb).ats (.cons (zP h0) (.cons (zp h1) .nil)))
def g159 := zJ (zH (zZ (.sl .sAdmitFound)) fun a0 => zI ((zaU a0), .agg [(zf ((zaK a0).e)), (zf ((zaK a0).where_.first)), (zf ((zaK a0).where_.second))], []))
theorem zFX : zD 159 g159 := zk (zB Tryz.func159 (by kernel_rfl) rfl) (zg fun x0 a0 h0 => zj fun hb => (zN2 a0 hb).ats (.cons (zp h0) .nil))
def g165 := zJ (zH (rdS .sConfig) fun a0 => zH (zZ (.i .i64)) fun a1 => zI ((zrt a0 a1), .tup [(zf ((zpb a0 a1).1)), (zf ((zpb a0 a1).2))], []))
theorem zF3 : zD 165 g165 := zk (zB Tryz.func165 (by kernel_rfl) rfl) (zg fun x0 a0 h0 => zg fun x1 a1 h1 => zj fun hb => (zN8 a0 a1 hb).ats (.cons (zP h0) (.cons (zp h1) .nil)))
def g166 := zJ (zH (rdS .sConfig) fun a0 => zH (zZ (.i .i64)) fun a1 => zH (zZ (.i .i64)) fun a2 => zI ((zng a0 a1 a2), (zX (zwI a0 a1 a2)), []))
theorem zF4 : zD 166 g166 := zk (zB Tryz.func166 (by kernel_rfl) rfl) (zg fun x0 a0 h0 => zg fun x1 a1 h1 => zg fun x2 a2 h2 => zj fun hb => (zN9 a0 a1 a2 hb).ats (.cons (zP h0) (.cons (zp h1) (.cons (zp h2) .nil))))
def g114 := zJ (zH (rdS .sConfig) fun a0 => zH (rdS .sPartition) fun a1 => zI ((zrc a0 a1), (zX (zwB a0 a1)), []))
theorem zFe : zD 114 g114 := zk (zB Tryz.func114 (by kernel_rfl) rfl) (zg fun x0 a0 h0 => zg fun x1 a1 h1 => zj fun hb => (zNv a0 a1 hb).ats (.cons (zP h0) (.cons (zP h1) .nil)))
def g173 := zJ (zH (zZ .s) fun a0 => zI ((zni a0), (zX (ztQ a0)), []))
theorem zGb : zD 173 g173 := zk (zB Tryz.func173 (by kernel_rfl) rfl) (zg fun x0 a0 h0 => zj fun hb => (zOg a0 hb).ats (.cons (zp h0) .nil))
def g97 (args : List AV) (hp : List Blk) : Option (Bool × AV × List Blk) :=
 match args, hp with
 | [.v (.int .i64 y0), .v (.int .i64 y1), .v (.int .i64 y2), .v (.int .i64 y3), .v (.int .i64 y4), .ref 0 0], [.cells 124 [.own 1], .arr 127 .sLayoutPiece y5] => some ((zgV y0 y1 y2 y3 y4 y5), .tup [], [.cells 124 [.own 2], .dead, .arr 127 .sLayoutPiece (znP y0 y1 y2 y3 y4 y5)])
 | _, _ => none
theorem zMr : zD 97 g97 := fun args hp b r hp' h hb => by
 unfold g97 at h
 split at h
 . cases h; exact ⟨zB Tryz.func97 (by kernel_rfl) rfl, zUF _ _ _ _ _ _ hb⟩
 . cases h
def g28 := zJ (zH (zZ (.sl .sOwner)) fun a0 => zH (rdS .sOwner) fun a1 => zI ((zKb a0 a1), (zX (sp28 a0 a1)), []))
theorem zLl : zD 28 g28 := zk (zB Tryz.func28 (by kernel_rfl) rfl) (zg fun x0 a0 h0 => zg fun x1 a1 h1 => zj fun hb => (zTz a0 a1 hb).ats (.cons (zp h0) (.cons (zP h1) .nil)))
def g43 := zJ (zH (rdS .sPartition) fun a0 => zH (zZ (.sl (.i .u32))) fun a1 => zI ((zCE a0 a1), (zX (zOL a0 a1)), []))
theorem zLA : zD 43 g43 := zk (zB Tryz.func43 (by kernel_rfl) rfl) (zg fun x0 a0 h0 => zg fun x1 a1 h1 => zj fun hb => (zTO a0 a1 hb).ats (.cons (zP h0) (.cons (zp h1) .nil)))
def g44 (args : List AV) (hp : List Blk) : Option (Bool × AV × List Blk) :=
 match args, hp with
 | [.own 0, .agg [.v (.string y0), .v (.int .i64 y1), .v (.int .i64 y2), .v (.int .i64 y3), .v (.int .i64 y4), .v (.int .i64 y5), .sl .sRegion y6, .sl .sPort y7], .agg [.v (.int .i64 y8), .v (.int .i64 y9), .v (.int .i64 y10), .v (.int .i64 y11), .sl (.i .i64) y12]], [.arr 57 (.i .u32) y13] => some ((zxP (⟨y0, y1, y2, y3, y4, y5, y6, y7⟩ : Partition) (⟨y8, y9, y10, y11, y12⟩ : PartitionPlace) y13), .tup [], [.arr 57 (.i .u32) (zCj (⟨y0, y1, y2, y3, y4, y5, y6, y7⟩ : Partition) (⟨y8, y9, y10, y11, y12⟩ : PartitionPlace) y13)])
 | _, _ => none
theorem zLB : zD 44 g44 := fun args hp b r hp' h hb => by
 unfold g44 at h
 split at h
 . cases h; have q := zTP _ _ _ hb; exact ⟨zB Tryz.func44 (by kernel_rfl) rfl, q⟩
 . cases h
def g45 (args : List AV) (hp : List Blk) : Option (Bool × AV × List Blk) :=
 match args, hp with
 | [.own 0, .agg [.v (.string y0), .v (.int .i64 y1), .v (.int .i64 y2), .v (.int .i64 y3), .v (.int .i64 y4), .v (.int .i64 y5), .sl .sRegion y6, .sl .sPort y7], .sl (.i .u32) y8], [.arr 57 (.i .u32) y9] => some ((zCF (⟨y0, y1, y2, y3, y4, y5, y6, y7⟩ : Partition) y8 y9), .tup [], [.arr 57 (.i .u32) (zOM (⟨y0, y1, y2, y3, y4, y5, y6, y7⟩ : Partition) y8 y9)])
 | _, _ => none
theorem zLC : zD 45 g45 := fun args hp b r hp' h hb => by
 unfold g45 at h
 split at h
 . cases h; have q := zTQ _ _ _ hb; exact ⟨zB Tryz.func45 (by kernel_rfl) rfl, q⟩
 . cases h
def g86 := zJ (zH (zZ (.p .sMemMemory)) fun a0 => zH (zZ (.i .i64)) fun a1 => zI ((zgh a0 a1), .tup [(avU ((zjA a0 a1).1)), (zf ((zjA a0 a1).2))], []))
theorem zMg : zD 86 g86 := zk (zB Tryz.func86 (by kernel_rfl) rfl) (zg fun x0 a0 h0 => zg fun x1 a1 h1 => zj fun hb => (zUu a0 a1 hb).ats (.cons (zp h0) (.cons (zp h1) .nil)))
def g7 := zJ (zH (zZ (.sl (.i .u32))) fun a0 => zI ((zHn a0), .tup [.op .sMemMemory ((sp7 a0).1), (zf ((sp7 a0).2))], []))
theorem zSm : zD 7 g7 := zk (zB Tryz.func7 (by kernel_rfl) rfl) (zg fun x0 a0 h0 => zj fun hb => (oks7 a0 hb).ats (.cons (zp h0) .nil))
noncomputable def GB : Gam := zd2 [(9, g9), (54, g54), (147, g147), (90, g90), (92, g92), (94, g94), (70, g70), (63, g63), (159, g159), (165, g165), (166, g166), (114, g114), (173, g173), (97, g97), (28, g28), (43, g43), (44, g44), (45, g45), (86, g86), (7, g7)] GA
theorem zc2 : GOk Pr GL GB := zaH ⟨zSo, zLK, zFL, zMk, zMm, zMo, zL0, zLT, zFX, zF3, zF4, zFe, zGb, zMr, zLl, zLA, zLB, zLC, zMg, zSm, trivial⟩ zdV
abbrev R17 := Bool
def zHL (r : R17) : zT := ⟨(zX r), []⟩
inductive L17 where | l0 (x0 : Int) | l4 (x0 : Int) | l8 (x1 : Int) (x0 : Int) | l12 (x0 : Int)
def zSC : L17 -> Nat | .l0 _ => 0 | .l4 _ => 4 | .l8 _ _ => 8 | .l12 _ => 12
def H17 : zS := htt [] [(0, ⟨z7 [2, 3, 5] 144 0, []⟩), (4, ⟨z7 [2, 3, 6] 144 0, []⟩), (8, ⟨z7 [2, 3, 6, 7] 144 0, []⟩), (12, ⟨z7 [2, 3, 8] 144 0, []⟩)] []
noncomputable def st17 (a : Config) (b : Config) : L17 -> St | .l0 x0 => stt [(2, .ref 0 0), (3, .ref 1 0), (5, (zf x0))] 144 [.cells 26 (Ty.enc .sConfig a), .cells 26 (Ty.enc .sConfig b)] 0 | .l4 x0 => stt [(2, .ref 0 0), (3, .ref 1 0), (6, (zf x0))] 144 [.cells 26 (Ty.enc .sConfig a), .cells 26 (Ty.enc .sConfig b)] 0 | .l8 x1 x0 => stt [(2, .ref 0 0), (3, .ref 1 0), (6, (zf x1)), (7, (zf x0))] 144 [.cells 26 (Ty.enc .sConfig a), .cells 26 (Ty.enc .sConfig b)] 0 | .l12 x0 => stt [(2, .ref 0 0), (3, .ref 1 0), (8, (zf x0))] 144 [.cells 26 (Ty.enc .sConfig a), .cells 26 (Ty.enc .sConfig b)] 0
noncomputable def zdp {R : Type} (ret : R17 -> R) (a : Config) (b : Config) (j : L17 -> Option R) : L17 -> Option R | .l0 x0 =>let y1 := zn a.channels x0.toNat; let y2 := zn b.channels x0.toNat;  cond (decide (x0 < a.channels.length)) (cond (zN x0 a.channels.length) ( cond (zN x0 b.channels.length) ( cond (!(((y1.kind : Int) == (y2.kind)) && (((y1.words : Int) == (y2.words)) && (((y1.depth : Int) == (y2.depth)) && true)))) (some (ret false)) (j (.l0 (i64.wrap (x0 + 1))))) none) none) (j (.l4 0)) | .l4 x0 => cond (decide (x0 < a.cores.length)) (cond (zN x0 a.cores.length) ( cond (zN x0 b.cores.length) ( cond (!(((zK a.cores x0.toNat).length : Int) == (zK b.cores x0.toNat).length)) (some (ret false)) (j (.l8 x0 0))) none) none) (j (.l12 0)) | .l8 x1 x0 =>let y1 := zK a.cores x1.toNat; let y3 := zcc y1 x0.toNat; let y4 := zK b.cores x1.toNat; let y2 := zcc y4 x0.toNat; let y5 := zN x1 a.cores.length;  cond y5 ( cond (decide (x0 < y1.length)) (cond y5 ( cond (zN x0 y1.length) ( cond (zN x1 b.cores.length) ( cond (zN x0 y4.length) ( cond (!(((y3.partition : Int) == (y2.partition)) && (((y3.usable : Int) == (y2.usable)) && (((y3.slack : Int) == (y2.slack)) && true)))) (some (ret false)) (j (.l8 x1 (i64.wrap (x0 + 1))))) none) none) none) none) (j (.l4 (i64.wrap (x1 + 1))))) none | .l12 x0 =>let y1 := za a.partitions x0.toNat; let y2 := za b.partitions x0.toNat;  cond (decide (x0 < a.partitions.length)) (cond (zN x0 a.partitions.length) ( cond (zN x0 b.partitions.length) ( cond (zxO y1 y2) ( cond (!(zG9 y1 y2)) (some (ret false)) (j (.l12 (i64.wrap (x0 + 1))))) none) none) none) (some (ret true))
noncomputable def zob {R : Type} (ret : R17 -> R) (a : Config) (b : Config) (j : L17 -> Option R) : Option R := cond (!((a.frames : Int) == b.frames)) (some (ret false)) (cond (!((a.major : Int) == b.major)) (some (ret false)) (cond (!((a.kernel : Int) == b.kernel)) (some (ret false)) (cond (!((a.room : Int) == b.room)) (some (ret false)) (cond (!((a.cores.length : Int) == b.cores.length)) (some (ret false)) (cond (!((a.partitions.length : Int) == b.partitions.length)) (some (ret false)) (cond (!((a.channels.length : Int) == b.channels.length)) (some (ret false)) (j (.l0 0))))))))
theorem ct17 (a : Config) (b : Config) (l : L17) : CT fun j => zdp id a b j l := by cases l <;> (dsimp only [zdp]; repeat (first | exact ctJ _ | exact ctK _ | apply ctC))
def zmM (a : Config) (b : Config) : L17 -> Option R17 := lfp (zdp id a b)
theorem zcQ (a : Config) (b : Config) (l : L17) : zmM a b l = zdp id a b (zmM a b) l := zL (ct17 a b) l
def zwU (a : Config) (b : Config) : Option R17 := zob id a b (zmM a b)
def zG4 (a : Config) (b : Config) : R17 := (zwU a b).getD default
def zxD (a : Config) (b : Config) : Bool := (zwU a b).isSome
theorem zTp (a : Config) (b : Config) (hc : zxD a b = true) : Okay Pr GL 17 [.agg (Ty.enc .sConfig a), .agg (Ty.enc .sConfig b)] [] (zHL (zG4 a b)) := zG (H := H17) (bod := zdp id a b) (ent := zob id a b) (bodA := zdp zHL a b) (entA := zob zHL a b) zc2 zA Tryz.func17 rfl (by kernel_rfl) zHL zSC (st17 a b) (fun J l => by cases l <;> kernel_rfl) (fun J => by kernel_rfl) (fun s l => by cases l <;> simp only [zdp, zc, zt, zu, id]) (fun s => by simp only [zob, zc, zt, zu, id]) (ct17 a b) (by dsimp only [zob]; repeat (first | exact ctJ _ | exact ctK _ | apply ctC)) hc
abbrev R56 := Int
def zO6 (r : R56) : zT := ⟨(zf r), []⟩
noncomputable def zor {R : Type} (ret : R56 -> R) (c : Config) : Option R := cond (!(zaZ c.frames 1 1024)) (some (ret 400)) (cond (!(zaZ c.major 1 16384)) (some (ret 401)) (cond (!(zaZ c.cores.length 1 4)) (some (ret 402)) (cond (!(zaZ c.partitions.length 1 8)) (some (ret 403)) (cond (decide ((c.channels.length : Int) > 16)) (some (ret 404)) (some (ret 0))))))
def zna (c : Config) : Option R56 := zor id c
def zvq (c : Config) : R56 := (zna c).getD default
theorem zOA (c : Config) : zna c = some (zvq c) := zC (show (zna c).isSome = true by simp only [zna, zor, zF, Option.isSome_some, zO])
theorem zT0 (c : Config) : Okay Pr GL 56 [.agg (Ty.enc .sConfig c)] [] (zO6 (zvq c)) := zy (H := H57) (ent := zor id c) (entA := zor zO6 c) zc2 zA Tryz.func56 rfl (by kernel_rfl) zO6 (fun J => by kernel_rfl) (by simp only [zor, zc, zt, zu, id]) (show (zna c).isSome = true by rw [zOA]; rfl)
abbrev R59 := Int
def zO8 (r : R59) : zT := ⟨(zf r), []⟩
noncomputable def zsJ {R : Type} (ret : R59 -> R) (c : Config) (h_1 : Int) : Option R := cond (zN h_1 c.channels.length) ( cond (!(((zn c.channels h_1.toNat).kind : Int) == 2)) (cond (!(((zn c.channels h_1.toNat).kind : Int) == 1)) (some (ret 415)) (cond (!(zaZ ((zn c.channels h_1.toNat).words) 1 16)) (some (ret 415)) (cond (((zn c.channels h_1.toNat).kind : Int) == 2) (cond (!(zaZ ((zn c.channels h_1.toNat).depth) 1 8)) (some (ret 415)) (cond (!(((zn c.channels h_1.toNat).kind : Int) == 2)) (cond (!(((zn c.channels h_1.toNat).depth : Int) == 0)) (some (ret 415)) (cond (zdH c h_1) ( cond (!(((zaD c h_1).1 : Int) == 1)) (some (ret 416)) (cond (((zn c.channels h_1.toNat).kind : Int) == 2) (cond (!(((zaD c h_1).2 : Int) == 1)) (some (ret 417)) (cond (!(((zn c.channels h_1.toNat).kind : Int) == 2)) (cond (!(zaZ ((zaD c h_1).2) 1 4)) (some (ret 417)) (some (ret 0))) (some (ret 0)))) (cond (!(((zn c.channels h_1.toNat).kind : Int) == 2)) (cond (!(zaZ ((zaD c h_1).2) 1 4)) (some (ret 417)) (some (ret 0))) (some (ret 0))))) none)) (cond (zdH c h_1) ( cond (!(((zaD c h_1).1 : Int) == 1)) (some (ret 416)) (cond (((zn c.channels h_1.toNat).kind : Int) == 2) (cond (!(((zaD c h_1).2 : Int) == 1)) (some (ret 417)) (cond (!(((zn c.channels h_1.toNat).kind : Int) == 2)) (cond (!(zaZ ((zaD c h_1).2) 1 4)) (some (ret 417)) (some (ret 0))) (some (ret 0)))) (cond (!(((zn c.channels h_1.toNat).kind : Int) == 2)) (cond (!(zaZ ((zaD c h_1).2) 1 4)) (some (ret 417)) (some (ret 0))) (some (ret 0))))) none))) (cond (!(((zn c.channels h_1.toNat).kind : Int) == 2)) (cond (!(((zn c.channels h_1.toNat).depth : Int) == 0)) (some (ret 415)) (cond (zdH c h_1) ( cond (!(((zaD c h_1).1 : Int) == 1)) (some (ret 416)) (cond (((zn c.channels h_1.toNat).kind : Int) == 2) (cond (!(((zaD c h_1).2 : Int) == 1)) (some (ret 417)) (cond (!(((zn c.channels h_1.toNat).kind : Int) == 2)) (cond (!(zaZ ((zaD c h_1).2) 1 4)) (some (ret 417)) (some (ret 0))) (some (ret 0)))) (cond (!(((zn c.channels h_1.toNat).kind : Int) == 2)) (cond (!(zaZ ((zaD c h_1).2) 1 4)) (some (ret 417)) (some (ret 0))) (some (ret 0))))) none)) (cond (zdH c h_1) ( cond (!(((zaD c h_1).1 : Int) == 1)) (some (ret 416)) (cond (((zn c.channels h_1.toNat).kind : Int) == 2) (cond (!(((zaD c h_1).2 : Int) == 1)) (some (ret 417)) (cond (!(((zn c.channels h_1.toNat).kind : Int) == 2)) (cond (!(zaZ ((zaD c h_1).2) 1 4)) (some (ret 417)) (some (ret 0))) (some (ret 0)))) (cond (!(((zn c.channels h_1.toNat).kind : Int) == 2)) (cond (!(zaZ ((zaD c h_1).2) 1 4)) (some (ret 417)) (some (ret 0))) (some (ret 0))))) none))))) (cond (!(zaZ ((zn c.channels h_1.toNat).words) 1 16)) (some (ret 415)) (cond (((zn c.channels h_1.toNat).kind : Int) == 2) (cond (!(zaZ ((zn c.channels h_1.toNat).depth) 1 8)) (some (ret 415)) (cond (!(((zn c.channels h_1.toNat).kind : Int) == 2)) (cond (!(((zn c.channels h_1.toNat).depth : Int) == 0)) (some (ret 415)) (cond (zdH c h_1) ( cond (!(((zaD c h_1).1 : Int) == 1)) (some (ret 416)) (cond (((zn c.channels h_1.toNat).kind : Int) == 2) (cond (!(((zaD c h_1).2 : Int) == 1)) (some (ret 417)) (cond (!(((zn c.channels h_1.toNat).kind : Int) == 2)) (cond (!(zaZ ((zaD c h_1).2) 1 4)) (some (ret 417)) (some (ret 0))) (some (ret 0)))) (cond (!(((zn c.channels h_1.toNat).kind : Int) == 2)) (cond (!(zaZ ((zaD c h_1).2) 1 4)) (some (ret 417)) (some (ret 0))) (some (ret 0))))) none)) (cond (zdH c h_1) ( cond (!(((zaD c h_1).1 : Int) == 1)) (some (ret 416)) (cond (((zn c.channels h_1.toNat).kind : Int) == 2) (cond (!(((zaD c h_1).2 : Int) == 1)) (some (ret 417)) (cond (!(((zn c.channels h_1.toNat).kind : Int) == 2)) (cond (!(zaZ ((zaD c h_1).2) 1 4)) (some (ret 417)) (some (ret 0))) (some (ret 0)))) (cond (!(((zn c.channels h_1.toNat).kind : Int) == 2)) (cond (!(zaZ ((zaD c h_1).2) 1 4)) (some (ret 417)) (some (ret 0))) (some (ret 0))))) none))) (cond (!(((zn c.channels h_1.toNat).kind : Int) == 2)) (cond (!(((zn c.channels h_1.toNat).depth : Int) == 0)) (some (ret 415)) (cond (zdH c h_1) ( cond (!(((zaD c h_1).1 : Int) == 1)) (some (ret 416)) (cond (((zn c.channels h_1.toNat).kind : Int) == 2) (cond (!(((zaD c h_1).2 : Int) == 1)) (some (ret 417)) (cond (!(((zn c.channels h_1.toNat).kind : Int) == 2)) (cond (!(zaZ ((zaD c h_1).2) 1 4)) (some (ret 417)) (some (ret 0))) (some (ret 0)))) (cond (!(((zn c.channels h_1.toNat).kind : Int) == 2)) (cond (!(zaZ ((zaD c h_1).2) 1 4)) (some (ret 417)) (some (ret 0))) (some (ret 0))))) none)) (cond (zdH c h_1) ( cond (!(((zaD c h_1).1 : Int) == 1)) (some (ret 416)) (cond (((zn c.channels h_1.toNat).kind : Int) == 2) (cond (!(((zaD c h_1).2 : Int) == 1)) (some (ret 417)) (cond (!(((zn c.channels h_1.toNat).kind : Int) == 2)) (cond (!(zaZ ((zaD c h_1).2) 1 4)) (some (ret 417)) (some (ret 0))) (some (ret 0)))) (cond (!(((zn c.channels h_1.toNat).kind : Int) == 2)) (cond (!(zaZ ((zaD c h_1).2) 1 4)) (some (ret 417)) (some (ret 0))) (some (ret 0))))) none))))) none
def zxf (c : Config) (h_1 : Int) : Option R59 := zsJ id c h_1
def zz7 (c : Config) (h_1 : Int) : R59 := (zxf c h_1).getD default
def zxS (c : Config) (h_1 : Int) : Bool := (zxf c h_1).isSome
theorem zT3 (c : Config) (h_1 : Int) (hc : zxS c h_1 = true) : Okay Pr GL 59 [.agg (Ty.enc .sConfig c), (zf h_1)] [] (zO8 (zz7 c h_1)) := zy (H := H57) (ent := zsJ id c h_1) (entA := zsJ zO8 c h_1) zc2 zA Tryz.func59 rfl (by kernel_rfl) zO8 (fun J => by kernel_rfl) (by simp only [zsJ, zc, zt, zu, id]) hc
abbrev R61 := Int × Where
def zIb (r : R61) : zT := ⟨.tup [(zf r.1), .agg [(zf r.2.first), (zf r.2.second)]], []⟩
inductive L61 where | l0 (x0 : Int) (x1 : Int)
def zS2 : L61 -> Nat | .l0 _ _ => 0
def H61 : zS := htt [] [(0, ⟨z7 [1, 2, 5, 6, 7] 84 0, []⟩)] []
noncomputable def st61 (c : Config) (i : Int) : L61 -> St | .l0 x0 x1 => stt [(1, (zf i)), (2, .ref 0 0), (5, .ref 1 0), (6, (zf x0)), (7, (zf x1))] 84 [.cells 26 (Ty.enc .sConfig c), .cells 76 [(zf 0), (zf 0)]] 0
noncomputable def zhG {R : Type} (ret : R61 -> R) (c : Config) (i : Int) (j : L61 -> Option R) : L61 -> Option R | .l0 x0 x1 =>let y2 := (⟨i, x1⟩ : Where); let y3 := zK c.cores i.toNat; let y1 := zcc y3 x1.toNat; let y4 := y1.partition; let y5 := zN i c.cores.length;  cond y5 ( cond (decide (x1 < y3.length)) (cond y5 ( cond (zN x1 y3.length) ( cond (!(zaZ y4 (-1) (i64.wrap (c.partitions.length - 1)))) (some (ret (419, y2))) (cond (!(zaZ (y1.usable) 1 16384)) (some (ret (419, y2))) (cond (!(zaZ (y1.slack) 82 16384)) (some (ret (420, y2))) (cond (zra c i y4) ( cond (zwA c i y4) (some (ret (422, y2))) (j (.l0 (i64.wrap (x0 + (i64.wrap (y1.usable + y1.slack)))) (i64.wrap (x1 + 1))))) none)))) none) none) (cond (!(x0 == c.major)) (some (ret (421, (zhp i)))) (some (ret (0, (⟨0, 0⟩ : Where)))))) none
noncomputable def zot {R : Type} (ret : R61 -> R) (c : Config) (i : Int) (j : L61 -> Option R) : Option R := cond (zN i c.cores.length) (cond (!(zaZ ((zK c.cores i.toNat).length) 1 16)) (some (ret (418, (zhp i)))) (j (.l0 0 0))) none
theorem ct61 (c : Config) (i : Int) (l : L61) : CT fun j => zhG id c i j l := by cases l <;> (dsimp only [zhG]; repeat (first | exact ctJ _ | exact ctK _ | apply ctC))
def zwP (c : Config) (i : Int) : L61 -> Option R61 := lfp (zhG id c i)
theorem zt8 (c : Config) (i : Int) (l : L61) : zwP c i l = zhG id c i (zwP c i) l := zL (ct61 c i) l
def zxg (c : Config) (i : Int) : Option R61 := zot id c i (zwP c i)
def zvs (c : Config) (i : Int) : R61 := (zxg c i).getD default
def zxT (c : Config) (i : Int) : Bool := (zxg c i).isSome
theorem zT5 (c : Config) (i : Int) (hc : zxT c i = true) : Okay Pr GL 61 [.agg (Ty.enc .sConfig c), (zf i)] [] (zIb (zvs c i)) := zG (H := H61) (bod := zhG id c i) (ent := zot id c i) (bodA := zhG zIb c i) (entA := zot zIb c i) zc2 zA Tryz.func61 rfl (by kernel_rfl) zIb zS2 (st61 c i) (fun J l => by cases l <;> kernel_rfl) (fun J => by kernel_rfl) (fun s l => by cases l <;> simp only [zhG, zc, zt, zu, id]) (fun s => by simp only [zot, zc, zt, zu, id]) (ct61 c i) (by dsimp only [zot]; repeat (first | exact ctJ _ | exact ctK _ | apply ctC)) hc
abbrev zyW := Bool
def zyi (r : zyW) : zT := ⟨(zX r), []⟩
inductive zrK where | l0 (x0 : Int)
def zML : zrK -> Nat | .l0 _ => 0
def H100 : zS := htt [] [(0, ⟨z7 [1, 2, 5] 31 0, []⟩)] []
noncomputable def zU7 (c : Config) (p : Int) : zrK -> St | .l0 x0 => stt [(1, (zf p)), (2, .ref 0 0), (5, (zf x0))] 31 [.cells 26 (Ty.enc .sConfig c)] 0
noncomputable def zeD {R : Type} (ret : zyW -> R) (c : Config) (p : Int) (j : zrK -> Option R) : zrK -> Option R | .l0 x0 =>let y1 := (za c.partitions p.toNat).name; let y2 := zN p c.partitions.length;  cond (decide (x0 < p)) (cond (zN x0 c.partitions.length) ( cond y2 ( cond (((za c.partitions x0.toNat).name).toList == y1.toList) (some (ret false)) (j (.l0 (i64.wrap (x0 + 1))))) none) none) (cond y2 ( cond (znb y1) (some (ret (ztO y1))) none) none)
noncomputable def zlm {R : Type} (ret : zyW -> R) (c : Config) (p : Int) (j : zrK -> Option R) : Option R := j (.l0 0)
theorem zJb (c : Config) (p : Int) (l : zrK) : CT fun j => zeD id c p j l := by cases l <;> (dsimp only [zeD]; repeat (first | exact ctJ _ | exact ctK _ | apply ctC))
def zqo (c : Config) (p : Int) : zrK -> Option zyW := lfp (zeD id c p)
theorem zpe (c : Config) (p : Int) (l : zrK) : zqo c p l = zeD id c p (zqo c p) l := zL (zJb c p) l
def zvA (c : Config) (p : Int) : Option zyW := zlm id c p (zqo c p)
def zwy (c : Config) (p : Int) : zyW := (zvA c p).getD default
def zq7 (c : Config) (p : Int) : Bool := (zvA c p).isSome
theorem zNh (c : Config) (p : Int) (hc : zq7 c p = true) : Okay Pr GL 100 [.agg (Ty.enc .sConfig c), (zf p)] [] (zyi (zwy c p)) := zG (H := H100) (bod := zeD id c p) (ent := zlm id c p) (bodA := zeD zyi c p) (entA := zlm zyi c p) zc2 zA Tryz.func100 rfl (by kernel_rfl) zyi zML (zU7 c p) (fun J l => by cases l <;> kernel_rfl) (fun J => by kernel_rfl) (fun s l => by cases l <;> simp only [zeD, zc, zt, zu, id]) (fun s => by simp only [zlm, zc, zt, zu, id]) (zJb c p) (by dsimp only [zlm]; repeat (first | exact ctJ _ | exact ctK _ | apply ctC)) hc
abbrev zyY := Bool
def zyk (r : zyY) : zT := ⟨(zX r), []⟩
inductive zrM where | l0 (x0 : Int)
def zMN : zrM -> Nat | .l0 _ => 0
def H102 : zS := htt [] [(0, ⟨z7 [1, 3] 39 0, []⟩)] []
noncomputable def zU9 (p : Partition) : zrM -> St | .l0 x0 => stt [(1, .ref 0 0), (3, (zf x0))] 39 [.cells 70 (Ty.enc .sPartition p)] 0
noncomputable def zeE {R : Type} (ret : zyY -> R) (p : Partition) (j : zrM -> Option R) : zrM -> Option R | .l0 x0 =>let y1 := zh p.regions x0.toNat; let y2 := i64.wrap (x0 + 1);  cond (decide (x0 < p.regions.length)) (cond (zN x0 p.regions.length) ( cond (zaZ (bop .quo .i64 p.entry 16) (y1.page) (i64.wrap ((i64.wrap (y1.page + y1.pages)) - 1))) (cond (!(((bop .and .i64 (y1.rights) 4) : Int) == 0)) (some (ret true)) (j (.l0 y2))) (j (.l0 y2))) none) (some (ret false))
noncomputable def ziJ {R : Type} (ret : zyY -> R) (p : Partition) (j : zrM -> Option R) : Option R := cond (!(zaZ p.entry 0 4095)) (some (ret false)) (j (.l0 0))
theorem zJd (p : Partition) (l : zrM) : CT fun j => zeE id p j l := by cases l <;> (dsimp only [zeE]; repeat (first | exact ctJ _ | exact ctK _ | apply ctC))
def zmH (p : Partition) : zrM -> Option zyY := lfp (zeE id p)
theorem zpf (p : Partition) (l : zrM) : zmH p l = zeE id p (zmH p) l := zL (zJd p) l
def zqx (p : Partition) : Option zyY := ziJ id p (zmH p)
def zwz (p : Partition) : zyY := (zqx p).getD default
def zq9 (p : Partition) : Bool := (zqx p).isSome
theorem zNj (p : Partition) (hc : zq9 p = true) : Okay Pr GL 102 [.agg (Ty.enc .sPartition p)] [] (zyk (zwz p)) := zG (H := H102) (bod := zeE id p) (ent := ziJ id p) (bodA := zeE zyk p) (entA := ziJ zyk p) zc2 zA Tryz.func102 rfl (by kernel_rfl) zyk zMN (zU9 p) (fun J l => by cases l <;> kernel_rfl) (fun J => by kernel_rfl) (fun s l => by cases l <;> simp only [zeE, zc, zt, zu, id]) (fun s => by simp only [ziJ, zc, zt, zu, id]) (zJd p) (by dsimp only [ziJ]; repeat (first | exact ctJ _ | exact ctK _ | apply ctC)) hc
abbrev zEn := Bool
def zDr (r : zEn) : zT := ⟨(zX r), []⟩
noncomputable def zi7 {R : Type} (ret : zEn -> R) (c : Config) (g : Region) : Option R := cond (!(zaZ g.page 0 255)) (some (ret false)) (cond (!(zaZ g.pages 1 (i64.wrap (256 - g.page)))) (some (ret false)) (cond (decide ((g.frame : Int) >= 0)) (cond (decide ((g.pages : Int) <= (i64.wrap (c.frames - g.frame)))) (some (ret (zaZ g.rights 1 7))) (some (ret false))) (some (ret false))))
def zjU (c : Config) (g : Region) : Option zEn := zi7 id c g
def zo8 (c : Config) (g : Region) : zEn := (zjU c g).getD default
theorem zGX (c : Config) (g : Region) : zjU c g = some (zo8 c g) := zC (show (zjU c g).isSome = true by simp only [zjU, zi7, zF, Option.isSome_some, zO])
theorem zNR (c : Config) (g : Region) : Okay Pr GL 148 [.agg (Ty.enc .sConfig c), .agg (Ty.enc .sRegion g)] [] (zDr (zo8 c g)) := zy (H := H57) (ent := zi7 id c g) (entA := zi7 zDr c g) zc2 zA Tryz.func148 rfl (by kernel_rfl) zDr (fun J => by kernel_rfl) (by simp only [zi7, zc, zt, zu, id]) (show (zjU c g).isSome = true by rw [zGX]; rfl)
abbrev R91 := Int
def zPu (r : R91) : zT := ⟨(zf r), []⟩
noncomputable def zoA {R : Type} (ret : R91 -> R) (h_0 : Channel) : Option R := cond (((zku h_0) : Int) == 0) (some (ret 0)) (some (ret (i64.wrap (3 + (zku h_0)))))
def zpB (h_0 : Channel) : Option R91 := zoA id h_0
def zvx (h_0 : Channel) : R91 := (zpB h_0).getD default
theorem zOH (h_0 : Channel) : zpB h_0 = some (zvx h_0) := zC (show (zpB h_0).isSome = true by simp only [zpB, zoA, zF, Option.isSome_some, zO])
theorem zUz (h_0 : Channel) : Okay Pr GL 91 [.agg (Ty.enc .sChannel h_0)] [] (zPu (zvx h_0)) := zy (H := H57) (ent := zoA id h_0) (entA := zoA zPu h_0) zc2 zA Tryz.func91 rfl (by kernel_rfl) zPu (fun J => by kernel_rfl) (by simp only [zoA, zc, zt, zu, id]) (show (zpB h_0).isSome = true by rw [zOH]; rfl)
abbrev R93 := Int
def zPv (r : R93) : zT := ⟨(zf r), []⟩
noncomputable def zoB {R : Type} (ret : R93 -> R) (h_0 : Channel) : Option R := cond (((zku h_0) : Int) == 0) (some (ret 0)) (cond ((h_0.kind : Int) == 1) (some (ret (i64.wrap (2 + h_0.words)))) (some (ret (i64.wrap (1 + (zku h_0))))))
def zpC (h_0 : Channel) : Option R93 := zoB id h_0
def zvy (h_0 : Channel) : R93 := (zpC h_0).getD default
theorem zOI (h_0 : Channel) : zpC h_0 = some (zvy h_0) := zC (show (zpC h_0).isSome = true by simp only [zpC, zoB, zF, Option.isSome_some, zO])
theorem zUB (h_0 : Channel) : Okay Pr GL 93 [.agg (Ty.enc .sChannel h_0)] [] (zPv (zvy h_0)) := zy (H := H57) (ent := zoB id h_0) (entA := zoB zPv h_0) zc2 zA Tryz.func93 rfl (by kernel_rfl) zPv (fun J => by kernel_rfl) (by simp only [zoB, zc, zt, zu, id]) (show (zpC h_0).isSome = true by rw [zOI]; rfl)
abbrev zEa := AdmitFound
def zDe (r : zEa) : zT := ⟨.agg [(zf r.e), (zf r.where_.first), (zf r.where_.second)], []⟩
noncomputable def zlx {R : Type} (ret : zEa -> R) (a : Config) : Option R := some (ret (zr (zY a.frames 1 1024) 400 nowhere))
def zmW (a : Config) : Option zEa := zlx id a
def zo0 (a : Config) : zEa := (zmW a).getD default
theorem zGO (a : Config) : zmW a = some (zo0 a) := zC (show (zmW a).isSome = true by simp only [zmW, zlx, zF, Option.isSome_some, zO])
theorem zBL (a : Config) : Okay Pr GL 130 [.op .sConfig (some a)] [] (zDe (zo0 a)) := zy (H := H57) (ent := zlx id a) (entA := zlx zDe a) zc2 zA Tryz.func130 rfl (by kernel_rfl) zDe (fun J => by kernel_rfl) (by simp only [zlx, zc, zt, zu, id]) (show (zmW a).isSome = true by rw [zGO]; rfl)
abbrev zEd := AdmitFound
def zDh (r : zEd) : zT := ⟨.agg [(zf r.e), (zf r.where_.first), (zf r.where_.second)], []⟩
noncomputable def zlz {R : Type} (ret : zEd -> R) (a : Config) : Option R := some (ret (zr (zY a.major 1 16384) 401 nowhere))
def zmY (a : Config) : Option zEd := zlz id a
def zo1 (a : Config) : zEd := (zmY a).getD default
theorem zGR (a : Config) : zmY a = some (zo1 a) := zC (show (zmY a).isSome = true by simp only [zmY, zlz, zF, Option.isSome_some, zO])
theorem zBM (a : Config) : Okay Pr GL 133 [.op .sConfig (some a)] [] (zDh (zo1 a)) := zy (H := H57) (ent := zlz id a) (entA := zlz zDh a) zc2 zA Tryz.func133 rfl (by kernel_rfl) zDh (fun J => by kernel_rfl) (by simp only [zlz, zc, zt, zu, id]) (show (zmY a).isSome = true by rw [zGR]; rfl)
abbrev zEe := AdmitFound
def zDi (r : zEe) : zT := ⟨.agg [(zf r.e), (zf r.where_.first), (zf r.where_.second)], []⟩
noncomputable def zlA {R : Type} (ret : zEe -> R) (a : Config) : Option R := some (ret (zr (zY a.cores.length 1 4) 402 nowhere))
def zmZ (a : Config) : Option zEe := zlA id a
def zo2 (a : Config) : zEe := (zmZ a).getD default
theorem zGS (a : Config) : zmZ a = some (zo2 a) := zC (show (zmZ a).isSome = true by simp only [zmZ, zlA, zF, Option.isSome_some, zO])
theorem zBN (a : Config) : Okay Pr GL 134 [.op .sConfig (some a)] [] (zDi (zo2 a)) := zy (H := H57) (ent := zlA id a) (entA := zlA zDi a) zc2 zA Tryz.func134 rfl (by kernel_rfl) zDi (fun J => by kernel_rfl) (by simp only [zlA, zc, zt, zu, id]) (show (zmZ a).isSome = true by rw [zGS]; rfl)
abbrev zEf := AdmitFound
def zDj (r : zEf) : zT := ⟨.agg [(zf r.e), (zf r.where_.first), (zf r.where_.second)], []⟩
noncomputable def zlB {R : Type} (ret : zEf -> R) (a : Config) : Option R := some (ret (zr (zY a.partitions.length 1 8) 403 nowhere))
def zm0 (a : Config) : Option zEf := zlB id a
def zo3 (a : Config) : zEf := (zm0 a).getD default
theorem zGT (a : Config) : zm0 a = some (zo3 a) := zC (show (zm0 a).isSome = true by simp only [zm0, zlB, zF, Option.isSome_some, zO])
theorem zBO (a : Config) : Okay Pr GL 135 [.op .sConfig (some a)] [] (zDj (zo3 a)) := zy (H := H57) (ent := zlB id a) (entA := zlB zDj a) zc2 zA Tryz.func135 rfl (by kernel_rfl) zDj (fun J => by kernel_rfl) (by simp only [zlB, zc, zt, zu, id]) (show (zm0 a).isSome = true by rw [zGT]; rfl)
abbrev zEg := AdmitFound
def zDk (r : zEg) : zT := ⟨.agg [(zf r.e), (zf r.where_.first), (zf r.where_.second)], []⟩
noncomputable def zlC {R : Type} (ret : zEg -> R) (a : Config) : Option R := some (ret (zr (decide ((a.channels.length : Int) <= 16)) 404 nowhere))
def zm1 (a : Config) : Option zEg := zlC id a
def zo4 (a : Config) : zEg := (zm1 a).getD default
theorem zGU (a : Config) : zm1 a = some (zo4 a) := zC (show (zm1 a).isSome = true by simp only [zm1, zlC, zF, Option.isSome_some, zO])
theorem zBP (a : Config) : Okay Pr GL 136 [.op .sConfig (some a)] [] (zDk (zo4 a)) := zy (H := H57) (ent := zlC id a) (entA := zlC zDk a) zc2 zA Tryz.func136 rfl (by kernel_rfl) zDk (fun J => by kernel_rfl) (by simp only [zlC, zc, zt, zu, id]) (show (zm1 a).isSome = true by rw [zGU]; rfl)
abbrev zzd := AdmitFound
def zyw (r : zzd) : zT := ⟨.agg [(zf r.e), (zf r.where_.first), (zf r.where_.second)], []⟩
inductive zrY where | l11 (x0 : Bool) (x1 : Int)
def zMZ : zrY -> Nat | .l11 _ _ => 11
def H140 : zS := htt [5] [(11, ⟨z7 [1, 2, 4, 5, 6, 7, 34, 35, 36, 39] 57 0, []⟩)] []
noncomputable def zVl (c : Config) (h_1 : Int) : zrY -> St | .l11 x0 x1 => stt [(1, (zf h_1)), (2, .ref 0 0), (4, .ref 1 0), (5, .ref 2 0), (6, (zX x0)), (7, (zf x1))] 57 [.cells 26 (Ty.enc .sConfig c), .cells 184 [(zf 0), (zf 0), (zf 0)], .cells 97 (Ty.enc .sChannel (zn c.channels h_1.toNat))] 0
noncomputable def zfx {R : Type} (ret : zzd -> R) (c : Config) (h_1 : Int) (j : zrY -> Option R) : zrY -> Option R | .l11 x0 x1 =>let y4 := zE h_1; let y1 := (zr (((zpb c h_1).1 : Int) == 1) 416 y4); let y2 := zr (zY ((zpb c h_1).2) 1 x1) 417 y4; let y3 := zr false 415 y4; let y5 := zn c.channels h_1.toNat; let y6 := zaU [y3, y1, y2]; let y7 := zaK [y3, y1, y2];  cond (zrt c h_1) ( cond (zY (y5.kind) 1 2) (cond (zY (y5.words) 1 16) (cond (zaU [(zr x0 415 y4), y1, y2]) ( some (ret (zaK [(zr x0 415 y4), y1, y2]))) none) (cond y6 ( some (ret y7)) none)) (cond y6 ( some (ret y7)) none)) none
noncomputable def zi3 {R : Type} (ret : zzd -> R) (c : Config) (h_1 : Int) (j : zrY -> Option R) : Option R := cond (zN h_1 c.channels.length) ( cond (((zn c.channels h_1.toNat).kind : Int) == 2) (j (.l11 (zY ((zn c.channels h_1.toNat).depth) 1 8) 1)) (j (.l11 (((zn c.channels h_1.toNat).depth : Int) == 0) 4))) none
theorem zJp (c : Config) (h_1 : Int) (l : zrY) : CT fun j => zfx id c h_1 j l := by cases l <;> (dsimp only [zfx]; repeat (first | exact ctJ _ | exact ctK _ | apply ctC))
def zjG (c : Config) (h_1 : Int) : zrY -> Option zzd := lfp (zfx id c h_1)
theorem zAc (c : Config) (h_1 : Int) (l : zrY) : zjG c h_1 l = zfx id c h_1 (zjG c h_1) l := zL (zJp c h_1) l
def zqN (c : Config) (h_1 : Int) : Option zzd := zi3 id c h_1 (zjG c h_1)
def zo6 (c : Config) (h_1 : Int) : zzd := (zqN c h_1).getD default
def zrj (c : Config) (h_1 : Int) : Bool := (zqN c h_1).isSome
theorem zNN (c : Config) (h_1 : Int) (hc : zrj c h_1 = true) : Okay Pr GL 140 [.agg (Ty.enc .sConfig c), (zf h_1)] [] (zyw (zo6 c h_1)) := zG (H := H140) (bod := zfx id c h_1) (ent := zi3 id c h_1) (bodA := zfx zyw c h_1) (entA := zi3 zyw c h_1) zc2 zA Tryz.func140 rfl (by kernel_rfl) zyw zMZ (zVl c h_1) (fun J l => by cases l <;> kernel_rfl) (fun J => by kernel_rfl) (fun s l => by cases l <;> simp only [zfx, zc, zt, zu, id]) (fun s => by simp only [zi3, zc, zt, zu, id]) (zJp c h_1) (by dsimp only [zi3]; repeat (first | exact ctJ _ | exact ctK _ | apply ctC)) hc
abbrev zze := AdmitFound
def zyx (r : zze) : zT := ⟨.agg [(zf r.e), (zf r.where_.first), (zf r.where_.second)], []⟩
inductive zrZ where | l0 (x0 : Int) (x1 : Int)
def zM0 : zrZ -> Nat | .l0 _ _ => 0
def H142 : zS := htt [] [(0, ⟨z7 [1, 2, 4, 5, 24, 25, 26] 85 0, []⟩)] []
noncomputable def zVm (c : Config) (k : Int) : zrZ -> St | .l0 x0 x1 => stt [(1, (zf k)), (2, .ref 0 0), (4, .ref 1 0), (5, (zf x0)), (24, .sl .sWindow (zK c.cores k.toNat)), (25, (zf ((zK c.cores k.toNat).length))), (26, (zf x1))] 85 [.cells 26 (Ty.enc .sConfig c), .cells 184 [(zf 0), (zf 0), (zf 0)]] 0
noncomputable def zeG {R : Type} (ret : zze -> R) (c : Config) (k : Int) (j : zrZ -> Option R) : zrZ -> Option R | .l0 x0 x1 =>let y7 := zK c.cores k.toNat; let y1 := zcc y7 x1.toNat; let y6 := i64.wrap (x0 + (i64.wrap (y1.usable + y1.slack))); let y8 := zam k x1; let y5 := zr (zY (y1.slack) 82 16384) 420 y8; let y9 := zr (zY (y1.usable) 1 16384) 419 y8; let y10 := y1.partition; let y4 := zr (!(zwI c k y10)) 422 y8; let y2 := zaK [y9, y5, y4]; let y11 := i64.wrap (x1 + 1); let y12 := zr false 419 y8; let y3 := zaK [y12, y5, y4];  cond (decide (x1 < y7.length)) (cond (zN x1 y7.length) ( cond (zY y10 (-1) (i64.wrap (c.partitions.length - 1))) (cond (zng c k y10) ( cond (zaU [y9, y5, y4]) ( cond (!(((y2.e : Int) == fine.e) && ((((y2.where_.first : Int) == fine.where_.first) && (((y2.where_.second : Int) == fine.where_.second) && true)) && true))) (some (ret y2)) (j (.l0 y6 y11))) none) none) (cond (zng c k y10) ( cond (zaU [y12, y5, y4]) ( cond (!(((y3.e : Int) == fine.e) && ((((y3.where_.first : Int) == fine.where_.first) && (((y3.where_.second : Int) == fine.where_.second) && true)) && true))) (some (ret y3)) (j (.l0 y6 y11))) none) none)) none) (some (ret (zr (x0 == c.major) 421 (zE k))))
noncomputable def zi4 {R : Type} (ret : zze -> R) (c : Config) (k : Int) (j : zrZ -> Option R) : Option R := cond (zN k c.cores.length) ( cond (!(zY ((zK c.cores k.toNat).length) 1 16)) (some (ret (⟨418, (⟨(zE k).first, (zE k).second⟩ : Where)⟩ : AdmitFound))) (cond (zN k c.cores.length) (j (.l0 0 0)) none)) none
theorem zJq (c : Config) (k : Int) (l : zrZ) : CT fun j => zeG id c k j l := by cases l <;> (dsimp only [zeG]; repeat (first | exact ctJ _ | exact ctK _ | apply ctC))
def zqp (c : Config) (k : Int) : zrZ -> Option zze := lfp (zeG id c k)
theorem zph (c : Config) (k : Int) (l : zrZ) : zqp c k l = zeG id c k (zqp c k) l := zL (zJq c k) l
def zqP (c : Config) (k : Int) : Option zze := zi4 id c k (zqp c k)
def zo7 (c : Config) (k : Int) : zze := (zqP c k).getD default
def zrk (c : Config) (k : Int) : Bool := (zqP c k).isSome
theorem zNO (c : Config) (k : Int) (hc : zrk c k = true) : Okay Pr GL 142 [.agg (Ty.enc .sConfig c), (zf k)] [] (zyx (zo7 c k)) := zG (H := H142) (bod := zeG id c k) (ent := zi4 id c k) (bodA := zeG zyx c k) (entA := zi4 zyx c k) zc2 zA Tryz.func142 rfl (by kernel_rfl) zyx zM0 (zVm c k) (fun J l => by cases l <;> kernel_rfl) (fun J => by kernel_rfl) (fun s l => by cases l <;> simp only [zeG, zc, zt, zu, id]) (fun s => by simp only [zi4, zc, zt, zu, id]) (zJq c k) (by dsimp only [zi4]; repeat (first | exact ctJ _ | exact ctK _ | apply ctC)) hc
abbrev R68 := Bool
def zIe (r : R68) : zT := ⟨(zX r), []⟩
inductive L68 where | l0 (x0 : Int) | l4 (x0 : Int)
def zS5 : L68 -> Nat | .l0 _ => 0 | .l4 _ => 4
def H68 : zS := htt [] [(0, ⟨z7 [1, 30, 31, 32, 59, 60, 61, 62, 63, 64, 65, 66, 72, 73, 74, 77, 78, 79] 82 0, []⟩), (4, ⟨z7 [1, 42, 43, 44] 82 0, []⟩)] []
noncomputable def st68 (c : Config) : L68 -> St | .l0 x0 => stt [(1, .ref 0 0), (30, .sl .sPartition c.partitions), (31, (zf c.partitions.length)), (32, (zf x0))] 82 [.cells 26 (Ty.enc .sConfig c)] 0 | .l4 x0 => stt [(1, .ref 0 0), (42, .sl .sChannel c.channels), (43, (zf c.channels.length)), (44, (zf x0))] 82 [.cells 26 (Ty.enc .sConfig c)] 0
noncomputable def zfE {R : Type} (ret : R68 -> R) (c : Config) (j : L68 -> Option R) : L68 -> Option R | .l0 x0 =>let y1 := za c.partitions x0.toNat;  cond (decide (x0 < c.partitions.length)) (cond (zN x0 c.partitions.length) ( cond (zrc c y1) ( cond (!(zwB c y1)) (some (ret false)) (j (.l0 (i64.wrap (x0 + 1))))) none) none) (j (.l4 0)) | .l4 x0 =>let y1 := (((ztT c x0).2).length : Int); let y2 := zn c.channels x0.toNat; let y3 := (!((((ztT c x0).1).length : Int) == 1)); let y4 := i64.wrap (x0 + 1);  cond (decide (x0 < c.channels.length)) (cond (zN x0 c.channels.length) ( cond (zpI c x0) ( cond (((zmF y2) : Int) == 0) (some (ret false)) (cond ((y2.kind : Int) == 1) (cond (!((y2.depth : Int) == 0)) (some (ret false)) (cond y3 (some (ret false)) (cond (decide (y1 < 1)) (some (ret false)) (cond (decide (y1 > 4)) (some (ret false)) (j (.l4 y4)))))) (cond y3 (some (ret false)) (cond (decide (y1 < 1)) (some (ret false)) (cond (decide (y1 > 4)) (some (ret false)) (j (.l4 y4))))))) none) none) (some (ret true))
noncomputable def zov {R : Type} (ret : R68 -> R) (c : Config) (j : L68 -> Option R) : Option R := cond (decide ((c.kernel : Int) < 0)) (some (ret false)) (cond (decide ((c.kernel : Int) >= 1024)) (some (ret false)) (cond (decide ((c.partitions.length : Int) > 8)) (some (ret false)) (cond (decide ((c.channels.length : Int) > 16)) (some (ret false)) (j (.l0 0)))))
theorem ct68 (c : Config) (l : L68) : CT fun j => zfE id c j l := by cases l <;> (dsimp only [zfE]; repeat (first | exact ctJ _ | exact ctK _ | apply ctC))
def zua (c : Config) : L68 -> Option R68 := lfp (zfE id c)
theorem zir (c : Config) (l : L68) : zua c l = zfE id c (zua c) l := zL (ct68 c) l
def zxl (c : Config) : Option R68 := zov id c (zua c)
def zHb (c : Config) : R68 := (zxl c).getD default
def zxZ (c : Config) : Bool := (zxl c).isSome
theorem zUc (c : Config) (hc : zxZ c = true) : Okay Pr GL 68 [.agg (Ty.enc .sConfig c)] [] (zIe (zHb c)) := zG (H := H68) (bod := zfE id c) (ent := zov id c) (bodA := zfE zIe c) (entA := zov zIe c) zc2 zA Tryz.func68 rfl (by kernel_rfl) zIe zS5 (st68 c) (fun J l => by cases l <;> kernel_rfl) (fun J => by kernel_rfl) (fun s l => by cases l <;> simp only [zfE, zc, zt, zu, id]) (fun s => by simp only [zov, zc, zt, zu, id]) (ct68 c) (by dsimp only [zov]; repeat (first | exact ctJ _ | exact ctK _ | apply ctC)) hc
abbrev R72 := Int
def zPg (r : R72) : zT := ⟨(zf r), []⟩
noncomputable def zox {R : Type} (ret : R72 -> R) (h_0 : Channel) : Option R := cond (((zmF h_0) : Int) == 0) (some (ret 0)) (cond ((h_0.kind : Int) == 1) (some (ret (i64.wrap ((zmF h_0) + 1)))) (some (ret (i64.wrap ((zmF h_0) + 2)))))
def zpA (h_0 : Channel) : Option R72 := zox id h_0
def zvv (h_0 : Channel) : R72 := (zpA h_0).getD default
theorem zOF (h_0 : Channel) : zpA h_0 = some (zvv h_0) := zC (show (zpA h_0).isSome = true by simp only [zpA, zox, zF, Option.isSome_some, zO])
theorem zUg (h_0 : Channel) : Okay Pr GL 72 [.agg (Ty.enc .sChannel h_0)] [] (zPg (zvv h_0)) := zy (H := H57) (ent := zox id h_0) (entA := zox zPg h_0) zc2 zA Tryz.func72 rfl (by kernel_rfl) zPg (fun J => by kernel_rfl) (by simp only [zox, zc, zt, zu, id]) (show (zpA h_0).isSome = true by rw [zOF]; rfl)
abbrev zzk := Bool
def zyD (r : zzk) : zT := ⟨(zX r), []⟩
inductive zr5 where | l0 (x0 : Int)
def zM6 : zr5 -> Nat | .l0 _ => 0
def H160 : zS := htt [] [(0, ⟨z7 [1, 2, 10, 11, 12] 33 0, []⟩)] []
noncomputable def zVs (c : Config) (p : Int) : zr5 -> St | .l0 x0 => stt [(1, (zf p)), (2, .ref 0 0), (10, .sl .sPartition ((c.partitions.take p.toNat).drop 0)), (11, (zf (((c.partitions.take p.toNat).drop 0).length))), (12, (zf x0))] 33 [.cells 26 (Ty.enc .sConfig c)] 0
noncomputable def zeJ {R : Type} (ret : zzk -> R) (c : Config) (p : Int) (j : zr5 -> Option R) : zr5 -> Option R | .l0 x0 =>let y1 := (za c.partitions p.toNat).name; let y2 := (c.partitions.take p.toNat).drop 0; let y3 := zN p c.partitions.length;  cond (decide (x0 < y2.length)) (cond (zN x0 y2.length) ( cond y3 ( cond (((za y2 x0.toNat).name).toList == y1.toList) (some (ret false)) (j (.l0 (i64.wrap (x0 + 1))))) none) none) (cond y3 ( cond (zni y1) (some (ret (ztQ y1))) none) none)
noncomputable def zja {R : Type} (ret : zzk -> R) (c : Config) (p : Int) (j : zr5 -> Option R) : Option R := cond (inS 0 p c.partitions.length) (j (.l0 0)) none
theorem zJw (c : Config) (p : Int) (l : zr5) : CT fun j => zeJ id c p j l := by cases l <;> (dsimp only [zeJ]; repeat (first | exact ctJ _ | exact ctK _ | apply ctC))
def zqr (c : Config) (p : Int) : zr5 -> Option zzk := lfp (zeJ id c p)
theorem zpk (c : Config) (p : Int) (l : zr5) : zqr c p l = zeJ id c p (zqr c p) l := zL (zJw c p) l
def zq0 (c : Config) (p : Int) : Option zzk := zja id c p (zqr c p)
def zcj (c : Config) (p : Int) : zzk := (zq0 c p).getD default
def zrr (c : Config) (p : Int) : Bool := (zq0 c p).isSome
theorem zN3 (c : Config) (p : Int) (hc : zrr c p = true) : Okay Pr GL 160 [.agg (Ty.enc .sConfig c), (zf p)] [] (zyD (zcj c p)) := zG (H := H160) (bod := zeJ id c p) (ent := zja id c p) (bodA := zeJ zyD c p) (entA := zja zyD c p) zc2 zA Tryz.func160 rfl (by kernel_rfl) zyD zM6 (zVs c p) (fun J l => by cases l <;> kernel_rfl) (fun J => by kernel_rfl) (fun s l => by cases l <;> simp only [zeJ, zc, zt, zu, id]) (fun s => by simp only [zja, zc, zt, zu, id]) (zJw c p) (by dsimp only [zja]; repeat (first | exact ctJ _ | exact ctK _ | apply ctC)) hc
abbrev zzl := AdmitFound
def zyE (r : zzl) : zT := ⟨.agg [(zf r.e), (zf r.where_.first), (zf r.where_.second)], []⟩
inductive zr6 where | l0 (x0 : Int) | l4 (x0 : Int) | l8 (x1 : Int) (x2 : Int) (x3 : List Region) (x4 : Int) (x0 : Int)
def zM7 : zr6 -> Nat | .l0 _ => 0 | .l4 _ => 4 | .l8 _ _ _ _ _ => 8
def H162 : zS := htt [] [(0, ⟨z7 [1, 2, 3, 6, 7, 68, 69, 70, 111, 112, 113, 116, 117, 118, 119, 120, 121, 122, 123, 124] 133 0, []⟩), (4, ⟨z7 [1, 2, 6, 7, 92, 93, 94, 111, 112, 113, 116, 117, 118, 119, 120, 121, 122, 123, 124] 133 0, []⟩), (8, ⟨z7 [1, 2, 6, 7, 10, 92, 93, 94, 100, 101, 102] 133 0, []⟩)] []
noncomputable def zVt (c : Config) (p : Int) (k : Int) : zr6 -> St | .l0 x0 => stt [(1, (zf p)), (2, (zf k)), (3, .ref 0 0), (6, .ref 1 0), (7, .ref 2 0), (68, .sl .sRegion ((((za c.partitions p.toNat).regions).take k.toNat).drop 0)), (69, (zf (((((za c.partitions p.toNat).regions).take k.toNat).drop 0).length))), (70, (zf x0))] 133 [.cells 26 (Ty.enc .sConfig c), .cells 184 [(zf 0), (zf 0), (zf 0)], .cells 118 (Ty.enc .sRegion (zh ((za c.partitions p.toNat).regions) k.toNat))] 0 | .l4 x0 => stt [(1, (zf p)), (2, (zf k)), (6, .ref 0 0), (7, .ref 1 0), (92, .sl .sPartition ((c.partitions.take (i64.wrap (p + 1)).toNat).drop 0)), (93, (zf (((c.partitions.take (i64.wrap (p + 1)).toNat).drop 0).length))), (94, (zf x0))] 133 [.cells 184 [(zf 0), (zf 0), (zf 0)], .cells 118 (Ty.enc .sRegion (zh ((za c.partitions p.toNat).regions) k.toNat))] 0 | .l8 x1 x2 x3 x4 x0 => stt [(1, (zf p)), (2, (zf k)), (6, .ref 0 0), (7, .ref 1 0), (10, (zf x1)), (92, .sl .sPartition ((c.partitions.take (i64.wrap (p + 1)).toNat).drop 0)), (93, (zf (((c.partitions.take (i64.wrap (p + 1)).toNat).drop 0).length))), (94, (zf x2)), (100, .sl .sRegion x3), (101, (zf x4)), (102, (zf x0))] 133 [.cells 184 [(zf 0), (zf 0), (zf 0)], .cells 118 (Ty.enc .sRegion (zh ((za c.partitions p.toNat).regions) k.toNat))] 0
noncomputable def zcs {R : Type} (ret : zzl -> R) (c : Config) (p : Int) (k : Int) (j : zr6 -> Option R) : zr6 -> Option R | .l0 x0 =>let y1 := (za c.partitions p.toNat).regions; let y2 := (y1.take k.toNat).drop 0; let y3 := zh y2 x0.toNat; let y4 := zh y1 k.toNat;  cond (decide (x0 < y2.length)) (cond (zN x0 y2.length) ( cond (zpc (y4.page) (y4.pages) (y3.page) (y3.pages)) (some (ret (⟨410, (⟨(zam p k).first, (zam p k).second⟩ : Where)⟩ : AdmitFound))) (j (.l0 (i64.wrap (x0 + 1))))) none) (cond (inS 0 (i64.wrap (p + 1)) c.partitions.length) (j (.l4 0)) none) | .l4 x0 =>let y1 := (c.partitions.take (i64.wrap (p + 1)).toNat).drop 0; let y2 := (za y1 x0.toNat).regions;  cond (decide (x0 < y1.length)) (cond (zN x0 y1.length) ( j (.l8 x0 x0 y2 (y2.length) 0)) none) (some (ret fine)) | .l8 x1 x2 x3 x4 x0 =>let y2 := (⟨411, (⟨(zam p k).first, (zam p k).second⟩ : Where)⟩ : AdmitFound); let y3 := zh ((za c.partitions p.toNat).regions) k.toNat; let y4 := i64.wrap (x0 + 1); let y5 := zh x3 x0.toNat; let y1 := zpc (y3.frame) (y3.pages) (y5.frame) (y5.pages);  cond (decide (x0 < x4)) (cond (zN x0 x3.length) ( cond (decide (x1 < p)) (cond y1 (some (ret y2)) (j (.l8 x1 x2 x3 x4 y4))) (cond (decide (x0 < k)) (cond y1 (some (ret y2)) (j (.l8 x1 x2 x3 x4 y4))) (j (.l8 x1 x2 x3 x4 y4)))) none) (j (.l4 (i64.wrap (x2 + 1))))
noncomputable def zjb {R : Type} (ret : zzl -> R) (c : Config) (p : Int) (k : Int) (j : zr6 -> Option R) : Option R := cond (zN p c.partitions.length) ( cond (zN k ((za c.partitions p.toNat).regions).length) ( cond (!(zY ((zh ((za c.partitions p.toNat).regions) k.toNat).page) 0 255)) (some (ret (⟨409, (⟨(zam p k).first, (zam p k).second⟩ : Where)⟩ : AdmitFound))) (cond (!(zY ((zh ((za c.partitions p.toNat).regions) k.toNat).pages) 1 (i64.wrap (256 - (zh ((za c.partitions p.toNat).regions) k.toNat).page)))) (some (ret (⟨409, (⟨(zam p k).first, (zam p k).second⟩ : Where)⟩ : AdmitFound))) (cond (decide (((zh ((za c.partitions p.toNat).regions) k.toNat).frame : Int) < 0)) (some (ret (⟨409, (⟨(zam p k).first, (zam p k).second⟩ : Where)⟩ : AdmitFound))) (cond (decide (((zh ((za c.partitions p.toNat).regions) k.toNat).pages : Int) > (i64.wrap (c.frames - (zh ((za c.partitions p.toNat).regions) k.toNat).frame)))) (some (ret (⟨409, (⟨(zam p k).first, (zam p k).second⟩ : Where)⟩ : AdmitFound))) (cond (!(zY ((zh ((za c.partitions p.toNat).regions) k.toNat).rights) 1 7)) (some (ret (⟨409, (⟨(zam p k).first, (zam p k).second⟩ : Where)⟩ : AdmitFound))) (cond (zN p c.partitions.length) (cond (inS 0 k ((za c.partitions p.toNat).regions).length) (j (.l0 0)) none) none)))))) none) none
theorem zJx (c : Config) (p : Int) (k : Int) (l : zr6) : CT fun j => zcs id c p k j l := by cases l <;> (dsimp only [zcs]; repeat (first | exact ctJ _ | exact ctK _ | apply ctC))
def zcA (c : Config) (p : Int) (k : Int) : zr6 -> Option zzl := lfp (zcs id c p k)
theorem zdf (c : Config) (p : Int) (k : Int) (l : zr6) : zcA c p k l = zcs id c p k (zcA c p k) l := zL (zJx c p k) l
def zq1 (c : Config) (p : Int) (k : Int) : Option zzl := zjb id c p k (zcA c p k)
def zmB (c : Config) (p : Int) (k : Int) : zzl := (zq1 c p k).getD default
def zrs (c : Config) (p : Int) (k : Int) : Bool := (zq1 c p k).isSome
theorem zN5 (c : Config) (p : Int) (k : Int) (hc : zrs c p k = true) : Okay Pr GL 162 [.agg (Ty.enc .sConfig c), (zf p), (zf k)] [] (zyE (zmB c p k)) := zG (H := H162) (bod := zcs id c p k) (ent := zjb id c p k) (bodA := zcs zyE c p k) (entA := zjb zyE c p k) zc2 zA Tryz.func162 rfl (by kernel_rfl) zyE zM7 (zVt c p k) (fun J l => by cases l <;> kernel_rfl) (fun J => by kernel_rfl) (fun s l => by cases l <;> simp only [zcs, zc, zt, zu, id]) (fun s => by simp only [zjb, zc, zt, zu, id]) (zJx c p k) (by dsimp only [zjb]; repeat (first | exact ctJ _ | exact ctK _ | apply ctC)) hc
abbrev zzm := Bool
def zyF (r : zzm) : zT := ⟨(zX r), []⟩
inductive zr7 where | l0 (x0 : Int)
def zM8 : zr7 -> Nat | .l0 _ => 0
def H163 : zS := htt [] [(0, ⟨z7 [1, 6, 7, 8] 31 0, []⟩)] []
noncomputable def zVu (x : Partition) : zr7 -> St | .l0 x0 => stt [(1, .ref 0 0), (6, .sl .sRegion x.regions), (7, (zf x.regions.length)), (8, (zf x0))] 31 [.cells 70 (Ty.enc .sPartition x)] 0
noncomputable def zeK {R : Type} (ret : zzm -> R) (x : Partition) (j : zr7 -> Option R) : zr7 -> Option R | .l0 x0 =>let y1 := zh x.regions x0.toNat; let y2 := i64.wrap (x0 + 1);  cond (decide (x0 < x.regions.length)) (cond (zN x0 x.regions.length) ( cond (zY (bop .quo .i64 x.entry 16) (y1.page) (i64.wrap ((i64.wrap (y1.page + y1.pages)) - 1))) (cond (!(((bop .and .i64 (y1.rights) 4) : Int) == 0)) (some (ret true)) (j (.l0 y2))) (j (.l0 y2))) none) (some (ret false))
noncomputable def zlS {R : Type} (ret : zzm -> R) (x : Partition) (j : zr7 -> Option R) : Option R := j (.l0 0)
theorem zJy (x : Partition) (l : zr7) : CT fun j => zeK id x j l := by cases l <;> (dsimp only [zeK]; repeat (first | exact ctJ _ | exact ctK _ | apply ctC))
def zmL (x : Partition) : zr7 -> Option zzm := lfp (zeK id x)
theorem zpl (x : Partition) (l : zr7) : zmL x l = zeK id x (zmL x) l := zL (zJy x) l
def zvD (x : Partition) : Option zzm := zlS id x (zmL x)
def zwH (x : Partition) : zzm := (zvD x).getD default
def znf (x : Partition) : Bool := (zvD x).isSome
theorem zN6 (x : Partition) (hc : znf x = true) : Okay Pr GL 163 [.agg (Ty.enc .sPartition x)] [] (zyF (zwH x)) := zG (H := H163) (bod := zeK id x) (ent := zlS id x) (bodA := zeK zyF x) (entA := zlS zyF x) zc2 zA Tryz.func163 rfl (by kernel_rfl) zyF zM8 (zVu x) (fun J l => by cases l <;> kernel_rfl) (fun J => by kernel_rfl) (fun s l => by cases l <;> simp only [zeK, zc, zt, zu, id]) (fun s => by simp only [zlS, zc, zt, zu, id]) (zJy x) (by dsimp only [zlS]; repeat (first | exact ctJ _ | exact ctK _ | apply ctC)) hc
abbrev zEl := Int
def zDp (r : zEl) : zT := ⟨(zf r), []⟩
noncomputable def zlH {R : Type} (ret : zEl -> R) (s_0 : LayoutSize) : Option R := some (ret (zmF s_0.channel))
def zm3 (s_0 : LayoutSize) : Option zEl := zlH id s_0
def zwD (s_0 : LayoutSize) : zEl := (zm3 s_0).getD default
theorem zGV (s_0 : LayoutSize) : zm3 s_0 = some (zwD s_0) := zC (show (zm3 s_0).isSome = true by simp only [zm3, zlH, zF, Option.isSome_some, zO])
theorem zBU (s_0 : LayoutSize) : Okay Pr GL 145 [.agg (Ty.enc .sLayoutSize s_0)] [] (zDp (zwD s_0)) := zy (H := H57) (ent := zlH id s_0) (entA := zlH zDp s_0) zc2 zA Tryz.func145 rfl (by kernel_rfl) zDp (fun J => by kernel_rfl) (by simp only [zlH, zc, zt, zu, id]) (show (zm3 s_0).isSome = true by rw [zGV]; rfl)
abbrev R52 := Bool
def zO5 (r : R52) : zT := ⟨(zX r), []⟩
noncomputable def zwa {R : Type} (ret : R52 -> R) (m : (Option MemMemory)) (o : (Option MemMemory)) (at_2 : Int) : Option R := cond (zgh m at_2) ( cond (zgh o at_2) ( cond (!(((zjA m at_2).1 : Int) == (zjA o at_2).1)) (some (ret true)) (some (ret (!(((zjA m at_2).2 : Int) == (zjA o at_2).2))))) none) none
def zJ2 (m : (Option MemMemory)) (o : (Option MemMemory)) (at_2 : Int) : Option R52 := zwa id m o at_2
def sp52 (m : (Option MemMemory)) (o : (Option MemMemory)) (at_2 : Int) : R52 := (zJ2 m o at_2).getD default
def zKc (m : (Option MemMemory)) (o : (Option MemMemory)) (at_2 : Int) : Bool := (zJ2 m o at_2).isSome
theorem zTW (m : (Option MemMemory)) (o : (Option MemMemory)) (at_2 : Int) (hc : zKc m o at_2 = true) : Okay Pr GL 52 [.op .sMemMemory m, .op .sMemMemory o, (zf at_2)] [] (zO5 (sp52 m o at_2)) := zy (H := H57) (ent := zwa id m o at_2) (entA := zwa zO5 m o at_2) zc2 zA Tryz.func52 rfl (by kernel_rfl) zO5 (fun J => by kernel_rfl) (by simp only [zwa, zc, zt, zu, id]) hc
def g17 := zJ (zH (rdS .sConfig) fun a0 => zH (rdS .sConfig) fun a1 => zI ((zxD a0 a1), (zX (zG4 a0 a1)), []))
theorem zLb : zD 17 g17 := zk (zB Tryz.func17 (by kernel_rfl) rfl) (zg fun x0 a0 h0 => zg fun x1 a1 h1 => zj fun hb => (zTp a0 a1 hb).ats (.cons (zP h0) (.cons (zP h1) .nil)))
def g56 := zJ (zH (rdS .sConfig) fun a0 => zI (true, (zf (zvq a0)), []))
theorem zLM : zD 56 g56 := zk (zB Tryz.func56 (by kernel_rfl) rfl) (zg fun x0 a0 h0 => zj fun hb => (zT0 a0).ats (.cons (zP h0) .nil))
def g59 := zJ (zH (rdS .sConfig) fun a0 => zH (zZ (.i .i64)) fun a1 => zI ((zxS a0 a1), (zf (zz7 a0 a1)), []))
theorem zLP : zD 59 g59 := zk (zB Tryz.func59 (by kernel_rfl) rfl) (zg fun x0 a0 h0 => zg fun x1 a1 h1 => zj fun hb => (zT3 a0 a1 hb).ats (.cons (zP h0) (.cons (zp h1) .nil)))
def g61 := zJ (zH (rdS .sConfig) fun a0 => zH (zZ (.i .i64)) fun a1 => zI ((zxT a0 a1), .tup [(zf ((zvs a0 a1).1)), .agg [(zf ((zvs a0 a1).2.first)), (zf ((zvs a0 a1).2.second))]], []))
theorem zLR : zD 61 g61 := zk (zB Tryz.func61 (by kernel_rfl) rfl) (zg fun x0 a0 h0 => zg fun x1 a1 h1 => zj fun hb => (zT5 a0 a1 hb).ats (.cons (zP h0) (.cons (zp h1) .nil)))
def g100 := zJ (zH (rdS .sConfig) fun a0 => zH (zZ (.i .i64)) fun a1 => zI ((zq7 a0 a1), (zX (zwy a0 a1)), []))
theorem zE0 : zD 100 g100 := zk (zB Tryz.func100 (by kernel_rfl) rfl) (zg fun x0 a0 h0 => zg fun x1 a1 h1 => zj fun hb => (zNh a0 a1 hb).ats (.cons (zP h0) (.cons (zp h1) .nil)))
def g102 := zJ (zH (rdS .sPartition) fun a0 => zI ((zq9 a0), (zX (zwz a0)), []))
theorem zE2 : zD 102 g102 := zk (zB Tryz.func102 (by kernel_rfl) rfl) (zg fun x0 a0 h0 => zj fun hb => (zNj a0 hb).ats (.cons (zP h0) .nil))
def g148 := zJ (zH (rdS .sConfig) fun a0 => zH (rdS .sRegion) fun a1 => zI (true, (zX (zo8 a0 a1)), []))
theorem zFM : zD 148 g148 := zk (zB Tryz.func148 (by kernel_rfl) rfl) (zg fun x0 a0 h0 => zg fun x1 a1 h1 => zj fun hb => (zNR a0 a1).ats (.cons (zP h0) (.cons (zP h1) .nil)))
def g91 := zJ (zH (rdS .sChannel) fun a0 => zI (true, (zf (zvx a0)), []))
theorem zMl : zD 91 g91 := zk (zB Tryz.func91 (by kernel_rfl) rfl) (zg fun x0 a0 h0 => zj fun hb => (zUz a0).ats (.cons (zP h0) .nil))
def g93 := zJ (zH (rdS .sChannel) fun a0 => zI (true, (zf (zvy a0)), []))
theorem zMn : zD 93 g93 := zk (zB Tryz.func93 (by kernel_rfl) rfl) (zg fun x0 a0 h0 => zj fun hb => (zUB a0).ats (.cons (zP h0) .nil))
def g130 := zJ (zH (rdP .sConfig) fun a0 => zI (true, .agg [(zf ((zo0 a0).e)), (zf ((zo0 a0).where_.first)), (zf ((zo0 a0).where_.second))], []))
theorem zFu : zD 130 g130 := zk (zB Tryz.func130 (by kernel_rfl) rfl) (zg fun x0 a0 h0 => zj fun hb => (zBL a0).ats (.cons (zbE h0) .nil))
def g133 := zJ (zH (rdP .sConfig) fun a0 => zI (true, .agg [(zf ((zo1 a0).e)), (zf ((zo1 a0).where_.first)), (zf ((zo1 a0).where_.second))], []))
theorem zFx : zD 133 g133 := zk (zB Tryz.func133 (by kernel_rfl) rfl) (zg fun x0 a0 h0 => zj fun hb => (zBM a0).ats (.cons (zbE h0) .nil))
def g134 := zJ (zH (rdP .sConfig) fun a0 => zI (true, .agg [(zf ((zo2 a0).e)), (zf ((zo2 a0).where_.first)), (zf ((zo2 a0).where_.second))], []))
theorem zFy : zD 134 g134 := zk (zB Tryz.func134 (by kernel_rfl) rfl) (zg fun x0 a0 h0 => zj fun hb => (zBN a0).ats (.cons (zbE h0) .nil))
def g135 := zJ (zH (rdP .sConfig) fun a0 => zI (true, .agg [(zf ((zo3 a0).e)), (zf ((zo3 a0).where_.first)), (zf ((zo3 a0).where_.second))], []))
theorem zFz : zD 135 g135 := zk (zB Tryz.func135 (by kernel_rfl) rfl) (zg fun x0 a0 h0 => zj fun hb => (zBO a0).ats (.cons (zbE h0) .nil))
def g136 := zJ (zH (rdP .sConfig) fun a0 => zI (true, .agg [(zf ((zo4 a0).e)), (zf ((zo4 a0).where_.first)), (zf ((zo4 a0).where_.second))], []))
theorem zFA : zD 136 g136 := zk (zB Tryz.func136 (by kernel_rfl) rfl) (zg fun x0 a0 h0 => zj fun hb => (zBP a0).ats (.cons (zbE h0) .nil))
def g140 := zJ (zH (rdS .sConfig) fun a0 => zH (zZ (.i .i64)) fun a1 => zI ((zrj a0 a1), .agg [(zf ((zo6 a0 a1).e)), (zf ((zo6 a0 a1).where_.first)), (zf ((zo6 a0 a1).where_.second))], []))
theorem zFE : zD 140 g140 := zk (zB Tryz.func140 (by kernel_rfl) rfl) (zg fun x0 a0 h0 => zg fun x1 a1 h1 => zj fun hb => (zNN a0 a1 hb).ats (.cons (zP h0) (.cons (zp h1) .nil)))
def g142 := zJ (zH (rdS .sConfig) fun a0 => zH (zZ (.i .i64)) fun a1 => zI ((zrk a0 a1), .agg [(zf ((zo7 a0 a1).e)), (zf ((zo7 a0 a1).where_.first)), (zf ((zo7 a0 a1).where_.second))], []))
theorem zFG : zD 142 g142 := zk (zB Tryz.func142 (by kernel_rfl) rfl) (zg fun x0 a0 h0 => zg fun x1 a1 h1 => zj fun hb => (zNO a0 a1 hb).ats (.cons (zP h0) (.cons (zp h1) .nil)))
def g68 := zJ (zH (rdS .sConfig) fun a0 => zI ((zxZ a0), (zX (zHb a0)), []))
theorem zLY : zD 68 g68 := zk (zB Tryz.func68 (by kernel_rfl) rfl) (zg fun x0 a0 h0 => zj fun hb => (zUc a0 hb).ats (.cons (zP h0) .nil))
def g72 := zJ (zH (rdS .sChannel) fun a0 => zI (true, (zf (zvv a0)), []))
theorem zL2 : zD 72 g72 := zk (zB Tryz.func72 (by kernel_rfl) rfl) (zg fun x0 a0 h0 => zj fun hb => (zUg a0).ats (.cons (zP h0) .nil))
def g160 := zJ (zH (rdS .sConfig) fun a0 => zH (zZ (.i .i64)) fun a1 => zI ((zrr a0 a1), (zX (zcj a0 a1)), []))
theorem zFY : zD 160 g160 := zk (zB Tryz.func160 (by kernel_rfl) rfl) (zg fun x0 a0 h0 => zg fun x1 a1 h1 => zj fun hb => (zN3 a0 a1 hb).ats (.cons (zP h0) (.cons (zp h1) .nil)))
def g162 := zJ (zH (rdS .sConfig) fun a0 => zH (zZ (.i .i64)) fun a1 => zH (zZ (.i .i64)) fun a2 => zI ((zrs a0 a1 a2), .agg [(zf ((zmB a0 a1 a2).e)), (zf ((zmB a0 a1 a2).where_.first)), (zf ((zmB a0 a1 a2).where_.second))], []))
theorem zF0 : zD 162 g162 := zk (zB Tryz.func162 (by kernel_rfl) rfl) (zg fun x0 a0 h0 => zg fun x1 a1 h1 => zg fun x2 a2 h2 => zj fun hb => (zN5 a0 a1 a2 hb).ats (.cons (zP h0) (.cons (zp h1) (.cons (zp h2) .nil))))
def g163 := zJ (zH (rdS .sPartition) fun a0 => zI ((znf a0), (zX (zwH a0)), []))
theorem zF1 : zD 163 g163 := zk (zB Tryz.func163 (by kernel_rfl) rfl) (zg fun x0 a0 h0 => zj fun hb => (zN6 a0 hb).ats (.cons (zP h0) .nil))
def g145 := zJ (zH (rdS .sLayoutSize) fun a0 => zI (true, (zf (zwD a0)), []))
theorem zFJ : zD 145 g145 := zk (zB Tryz.func145 (by kernel_rfl) rfl) (zg fun x0 a0 h0 => zj fun hb => (zBU a0).ats (.cons (zP h0) .nil))
def g52 := zJ (zH (zZ (.p .sMemMemory)) fun a0 => zH (zZ (.p .sMemMemory)) fun a1 => zH (zZ (.i .i64)) fun a2 => zI ((zKc a0 a1 a2), (zX (sp52 a0 a1 a2)), []))
theorem zLI : zD 52 g52 := zk (zB Tryz.func52 (by kernel_rfl) rfl) (zg fun x0 a0 h0 => zg fun x1 a1 h1 => zg fun x2 a2 h2 => zj fun hb => (zTW a0 a1 a2 hb).ats (.cons (zp h0) (.cons (zp h1) (.cons (zp h2) .nil))))
noncomputable def GC : Gam := zd2 [(17, g17), (56, g56), (59, g59), (61, g61), (100, g100), (102, g102), (148, g148), (91, g91), (93, g93), (130, g130), (133, g133), (134, g134), (135, g135), (136, g136), (140, g140), (142, g142), (68, g68), (72, g72), (160, g160), (162, g162), (163, g163), (145, g145), (52, g52)] GB
theorem zrH : GOk Pr GL GC := zaH ⟨zLb, zLM, zLP, zLR, zE0, zE2, zFM, zMl, zMn, zFu, zFx, zFy, zFz, zFA, zFE, zFG, zLY, zL2, zFY, zF0, zF1, zFJ, zLI, trivial⟩ zc2
abbrev zyX := Int
def zyj (r : zyX) : zT := ⟨(zf r), []⟩
inductive zrL where | l0 (x0 : Int) | l4 (x0 : Int) | l8 (x0 : Int) (x1 : Int)
def zMM : zrL -> Nat | .l0 _ => 0 | .l4 _ => 4 | .l8 _ _ => 8
def H101 : zS := htt [] [(0, ⟨z7 [1, 2, 3, 7, 8, 69, 70, 71] 91 0, []⟩), (4, ⟨z7 [1, 2, 3, 7, 10] 91 0, []⟩), (8, ⟨z7 [1, 2, 3, 7, 10, 11] 91 0, []⟩)] []
noncomputable def zU8 (c : Config) (p : Int) (k : Int) : zrL -> St | .l0 x0 => stt [(1, (zf p)), (2, (zf k)), (3, .ref 0 0), (7, .ref 1 0), (8, (zf x0))] 91 [.cells 26 (Ty.enc .sConfig c), .cells 118 (Ty.enc .sRegion (zh ((za c.partitions p.toNat).regions) k.toNat))] 0 | .l4 x0 => stt [(1, (zf p)), (2, (zf k)), (3, .ref 0 0), (7, .ref 1 0), (10, (zf x0))] 91 [.cells 26 (Ty.enc .sConfig c), .cells 118 (Ty.enc .sRegion (zh ((za c.partitions p.toNat).regions) k.toNat))] 0 | .l8 x0 x1 => stt [(1, (zf p)), (2, (zf k)), (3, .ref 0 0), (7, .ref 1 0), (10, (zf x0)), (11, (zf x1))] 91 [.cells 26 (Ty.enc .sConfig c), .cells 118 (Ty.enc .sRegion (zh ((za c.partitions p.toNat).regions) k.toNat))] 0
noncomputable def zbS {R : Type} (ret : zyX -> R) (c : Config) (p : Int) (k : Int) (j : zrL -> Option R) : zrL -> Option R | .l0 x0 =>let y1 := (za c.partitions p.toNat).regions; let y2 := zh y1 x0.toNat; let y3 := zh y1 k.toNat;  cond (decide (x0 < k)) (cond (zN p c.partitions.length) ( cond (zN x0 y1.length) ( cond (zmy (y3.page) (y3.pages) (y2.page) (y2.pages)) (some (ret 410)) (j (.l0 (i64.wrap (x0 + 1))))) none) none) (j (.l4 0)) | .l4 x0 => cond (decide (x0 <= p)) (j (.l8 x0 0)) (some (ret 0)) | .l8 x0 x1 =>let y2 := (za c.partitions x0.toNat).regions; let y3 := zh ((za c.partitions p.toNat).regions) k.toNat; let y4 := zN x0 c.partitions.length; let y5 := i64.wrap (x0 + 1); let y6 := i64.wrap (x1 + 1); let y7 := zh y2 x1.toNat; let y1 := zmy (y3.frame) (y3.pages) (y7.frame) (y7.pages);  cond y4 ( cond (decide (x1 < y2.length)) (cond (x0 == p) (cond (decide (x1 >= k)) (j (.l4 y5)) (cond y4 ( cond (zN x1 y2.length) ( cond y1 (some (ret 411)) (j (.l8 x0 y6))) none) none)) (cond y4 ( cond (zN x1 y2.length) ( cond y1 (some (ret 411)) (j (.l8 x0 y6))) none) none)) (j (.l4 y5))) none
noncomputable def ziI {R : Type} (ret : zyX -> R) (c : Config) (p : Int) (k : Int) (j : zrL -> Option R) : Option R := cond (zN p c.partitions.length) ( cond (zN k ((za c.partitions p.toNat).regions).length) ( cond (!(zo8 c (zh ((za c.partitions p.toNat).regions) k.toNat))) (some (ret 409)) (j (.l0 0))) none) none
theorem zJc (c : Config) (p : Int) (k : Int) (l : zrL) : CT fun j => zbS id c p k j l := by cases l <;> (dsimp only [zbS]; repeat (first | exact ctJ _ | exact ctK _ | apply ctC))
def zbX (c : Config) (p : Int) (k : Int) : zrL -> Option zyX := lfp (zbS id c p k)
theorem zb3 (c : Config) (p : Int) (k : Int) (l : zrL) : zbX c p k l = zbS id c p k (zbX c p k) l := zL (zJc c p k) l
def zqw (c : Config) (p : Int) (k : Int) : Option zyX := ziI id c p k (zbX c p k)
def zoY (c : Config) (p : Int) (k : Int) : zyX := (zqw c p k).getD default
def zq8 (c : Config) (p : Int) (k : Int) : Bool := (zqw c p k).isSome
theorem zNi (c : Config) (p : Int) (k : Int) (hc : zq8 c p k = true) : Okay Pr GL 101 [.agg (Ty.enc .sConfig c), (zf p), (zf k)] [] (zyj (zoY c p k)) := zG (H := H101) (bod := zbS id c p k) (ent := ziI id c p k) (bodA := zbS zyj c p k) (entA := ziI zyj c p k) zrH zA Tryz.func101 rfl (by kernel_rfl) zyj zMM (zU8 c p k) (fun J l => by cases l <;> kernel_rfl) (fun J => by kernel_rfl) (fun s l => by cases l <;> simp only [zbS, zc, zt, zu, id]) (fun s => by simp only [ziI, zc, zt, zu, id]) (zJc c p k) (by dsimp only [ziI]; repeat (first | exact ctJ _ | exact ctK _ | apply ctC)) hc
abbrev R46 := Bool
def zH4 (r : R46) : zT := ⟨(zX r), []⟩
inductive L46 where | l0 (x0 : Int) | l4 (x0 : Int) | l8 (x5 : Int) (x2 : Int) (x3 : Int) (x6 : Int) (x7 : Int) (x8 : Bool) (x0 : Bool) (x1 : Bool) (x4 : Int) (x9 : Int) (x10 : Int) (x11 : Int)
def zSV : L46 -> Nat | .l0 _ => 0 | .l4 _ => 4 | .l8 _ _ _ _ _ _ _ _ _ _ _ _ => 8
def H46 : zS := htt [] [(0, ⟨z7 [1, 31, 32, 61, 62, 63, 64, 65, 66, 67, 68, 98, 99, 102, 103] 106 0, []⟩), (4, ⟨z7 [1, 48, 49, 65, 66, 67] 106 0, []⟩), (8, ⟨z7 [1, 4, 6, 7, 48, 49, 61, 62, 63, 64, 68, 72, 73, 98, 99, 102, 103] 106 0, []⟩)] []
noncomputable def st46 (c : Config) : L46 -> St | .l0 x0 => stt [(1, .ref 0 0), (31, (zf c.partitions.length)), (32, (zf x0))] 106 [.cells 26 (Ty.enc .sConfig c)] 0 | .l4 x0 => stt [(1, .ref 0 0), (48, (zf c.channels.length)), (49, (zf x0))] 106 [.cells 26 (Ty.enc .sConfig c)] 0 | .l8 x5 x2 x3 x6 x7 x8 x0 x1 x4 x9 x10 x11 => stt [(1, .ref 0 0), (4, (zf x5)), (6, (zf x2)), (7, (zf x3)), (48, (zf c.channels.length)), (49, (zf x6)), (61, .ref 1 0), (62, (zf x7)), (63, (zX x8)), (64, (zX x0)), (68, (zX x1)), (72, (zf c.partitions.length)), (73, (zf x4))] 106 [.cells 26 (Ty.enc .sConfig c), .cells 97 [(zf x9), (zf x10), (zf x11)]] 0
noncomputable def zee {R : Type} (ret : R46 -> R) (c : Config) (j : L46 -> Option R) : L46 -> Option R | .l0 x0 =>let y1 := za c.partitions x0.toNat;  cond (decide (x0 < c.partitions.length)) (cond (zN x0 c.partitions.length) ( cond (zx8 y1 c.channels.length) ( cond (!(zHe y1 c.channels.length)) (some (ret false)) (j (.l0 (i64.wrap (x0 + 1))))) none) none) (j (.l4 0)) | .l4 x0 =>let y1 := zn c.channels x0.toNat; let y2 := ((y1.kind : Int) == 1); let y3 := (!((y1.depth : Int) == 0)); let y4 := y1.kind;  cond (decide (x0 < c.channels.length)) (cond (zN x0 c.channels.length) ( cond (((zvx y1) : Int) == 0) (some (ret false)) (cond y2 (cond y3 (some (ret false)) (j (.l8 x0 0 0 x0 y4 y2 true y3 0 y4 (y1.words) (y1.depth)))) (j (.l8 x0 0 0 x0 y4 y2 false false 0 y4 (y1.words) (y1.depth))))) none) (some (ret true)) | .l8 x5 x2 x3 x6 x7 x8 x0 x1 x4 x9 x10 x11 =>let y1 := za c.partitions x4.toNat; let y2 := zN x4 c.partitions.length;  cond (decide (x4 < c.partitions.length)) (cond y2 ( cond (zpK y1 x5 true) ( cond y2 ( cond (zpK y1 x5 false) ( j (.l8 x5 (i64.wrap (x2 + (zAa y1 x5 true))) (i64.wrap (x3 + (zAa y1 x5 false))) x6 x7 x8 x0 x1 (i64.wrap (x4 + 1)) x9 x10 x11)) none) none) none) none) (cond (!(x2 == 1)) (some (ret false)) (cond (decide (x3 < 1)) (some (ret false)) (cond (decide (x3 > 4)) (some (ret false)) (j (.l4 (i64.wrap (x6 + 1)))))))
noncomputable def zom {R : Type} (ret : R46 -> R) (c : Config) (j : L46 -> Option R) : Option R := cond (decide ((c.kernel : Int) < 0)) (some (ret false)) (cond (decide ((c.kernel : Int) >= 1024)) (some (ret false)) (cond (decide ((c.partitions.length : Int) > 8)) (some (ret false)) (cond (decide ((c.channels.length : Int) > 16)) (some (ret false)) (j (.l0 0)))))
theorem ct46 (c : Config) (l : L46) : CT fun j => zee id c j l := by cases l <;> (dsimp only [zee]; repeat (first | exact ctJ _ | exact ctK _ | apply ctC))
def zkz (c : Config) : L46 -> Option R46 := lfp (zee id c)
theorem zew (c : Config) (l : L46) : zkz c l = zee id c (zkz c) l := zL (ct46 c) l
def zxc (c : Config) : Option R46 := zom id c (zkz c)
def zvo (c : Config) : R46 := (zxc c).getD default
def znn (c : Config) : Bool := (zxc c).isSome
theorem zTR (c : Config) (hc : znn c = true) : Okay Pr GL 46 [.agg (Ty.enc .sConfig c)] [] (zH4 (zvo c)) := zG (H := H46) (bod := zee id c) (ent := zom id c) (bodA := zee zH4 c) (entA := zom zH4 c) zrH zA Tryz.func46 rfl (by kernel_rfl) zH4 zSV (st46 c) (fun J l => by cases l <;> kernel_rfl) (fun J => by kernel_rfl) (fun s l => by cases l <;> simp only [zee, zc, zt, zu, id]) (fun s => by simp only [zom, zc, zt, zu, id]) (ct46 c) (by dsimp only [zom]; repeat (first | exact ctJ _ | exact ctK _ | apply ctC)) hc
abbrev R47 := (List Bulkheadref15Piece)
def zH5 (r : R47) : zT := ⟨.own 0, [.arr 116 .sBulkheadref15Piece r]⟩
inductive L47 where | l0 (x0 : Int) (x1 : Int) (x2 : List Bulkheadref15Piece) | l4 (x0 : Int) (x1 : Int) (x2 : List Bulkheadref15Piece) | l8 (x0 : Int) (x1 : Int) (x2 : Int) (x7 : Int) (x3 : List Bulkheadref15Piece) (x4 : Int) (x5 : Int) (x6 : Int) | l16 (x0 : Int) (x1 : List Bulkheadref15Piece) | l12 (x0 : Int) (x1 : Int) (x8 : Int) (x2 : Int) (x9 : Int) (x10 : Int) (x7 : Int) (x3 : List Bulkheadref15Piece) (x4 : Int) (x5 : Int) (x6 : Int) | l20 (x0 : Int) (x2 : Int) (x1 : List Bulkheadref15Piece) | l61 (x0 : Int) (x1 : Int) (x7 : Int) (x2 : Int) (x8 : Int) (x9 : Int) (x10 : Int) (x3 : List Bulkheadref15Piece) (x4 : Int) (x5 : Int) (x6 : Int) | l24 (x0 : Int) (x4 : Int) (x2 : Int) (x5 : Int) (x3 : Int) (x1 : List Bulkheadref15Piece) | l89 (x0 : Int) (x3 : Int) (x2 : Int) (x4 : Int) (x5 : Int) (x1 : List Bulkheadref15Piece) | l28 (x0 : Int) (x3 : Int) (x4 : Int) (x5 : Int) (x2 : Int) (x1 : List Bulkheadref15Piece)
def zSW : L47 -> Nat | .l0 _ _ _ => 0 | .l4 _ _ _ => 4 | .l8 _ _ _ _ _ _ _ _ => 8 | .l16 _ _ => 16 | .l12 _ _ _ _ _ _ _ _ _ _ _ => 12 | .l20 _ _ _ => 20 | .l61 _ _ _ _ _ _ _ _ _ _ _ => 61 | .l24 _ _ _ _ _ _ => 24 | .l89 _ _ _ _ _ _ => 89 | .l28 _ _ _ _ _ _ => 28
def H47 : zS := htt [30, 44] [(0, ⟨z7 [1, 3, 4, 27, 28, 121, 122, 123] 181 0, []⟩), (4, ⟨z7 [1, 3, 4, 60, 61, 121, 122, 123] 181 0, []⟩), (8, ⟨z7 [1, 3, 4, 6, 7, 60, 61, 93, 94, 121, 122, 123] 181 0, []⟩), (12, ⟨z7 [1, 3, 4, 6, 7, 8, 60, 61, 93, 94, 103, 104, 121, 122, 123] 181 0, []⟩), (16, ⟨z7 [1, 3, 4] 181 0, []⟩), (20, ⟨z7 [1, 3, 4, 149, 150] 181 0, []⟩), (24, ⟨z7 [1, 3, 4, 11, 12, 149, 150, 153] 181 0, []⟩), (28, ⟨z7 [1, 3, 4, 11, 149, 150, 166, 167] 181 0, []⟩), (61, ⟨z7 [1, 3, 4, 6, 7, 8, 60, 61, 93, 94, 103, 104] 181 0, []⟩), (89, ⟨z7 [1, 3, 4, 11, 12, 149, 150, 153] 181 0, []⟩)] []
noncomputable def st47 (c : Config) : L47 -> St | .l0 x0 x1 x2 => stt [(1, .ref 0 0), (3, .own 1), (4, (zf x0)), (27, (zf c.partitions.length)), (28, (zf x1))] 181 [.cells 26 (Ty.enc .sConfig c), .arr 116 .sBulkheadref15Piece x2] 0 | .l4 x0 x1 x2 => stt [(1, .ref 0 0), (3, .own 1), (4, (zf x0)), (60, (zf c.channels.length)), (61, (zf x1))] 181 [.cells 26 (Ty.enc .sConfig c), .arr 116 .sBulkheadref15Piece x2] 0 | .l8 x0 x1 x2 x7 x3 x4 x5 x6 => stt [(1, .ref 0 0), (3, .own 1), (4, (zf x0)), (6, (zf x1)), (7, .ref 2 0), (60, (zf c.channels.length)), (61, (zf x2)), (93, (zf c.partitions.length)), (94, (zf x7))] 181 [.cells 26 (Ty.enc .sConfig c), .arr 116 .sBulkheadref15Piece x3, .cells 97 [(zf x4), (zf x5), (zf x6)]] 0 | .l16 x0 x1 => stt [(1, .ref 0 0), (3, .own 1), (4, (zf x0))] 181 [.cells 26 (Ty.enc .sConfig c), .arr 116 .sBulkheadref15Piece x1] 0 | .l12 x0 x1 x8 x2 x9 x10 x7 x3 x4 x5 x6 => stt [(1, .ref 0 0), (3, .own 1), (4, (zf x0)), (6, (zf x1)), (7, .ref 2 0), (8, (zf x8)), (60, (zf c.channels.length)), (61, (zf x2)), (93, (zf c.partitions.length)), (94, (zf x9)), (103, (zf x10)), (104, (zf x7))] 181 [.cells 26 (Ty.enc .sConfig c), .arr 116 .sBulkheadref15Piece x3, .cells 97 [(zf x4), (zf x5), (zf x6)]] 0 | .l20 x0 x2 x1 => stt [(1, .ref 0 0), (3, .own 1), (4, (zf x0)), (149, (zf c.partitions.length)), (150, (zf x2))] 181 [.cells 26 (Ty.enc .sConfig c), .arr 116 .sBulkheadref15Piece x1] 0 | .l61 x0 x1 x7 x2 x8 x9 x10 x3 x4 x5 x6 => stt [(1, .ref 0 0), (3, .own 1), (4, (zf x0)), (6, (zf x1)), (7, .ref 2 0), (8, (zf x7)), (60, (zf c.channels.length)), (61, (zf x2)), (93, (zf c.partitions.length)), (94, (zf x8)), (103, (zf x9)), (104, (zf x10))] 181 [.cells 26 (Ty.enc .sConfig c), .arr 116 .sBulkheadref15Piece x3, .cells 97 [(zf x4), (zf x5), (zf x6)]] 0 | .l24 x0 x4 x2 x5 x3 x1 => stt [(1, .ref 0 0), (3, .own 1), (4, (zf x0)), (11, (zf x4)), (12, (zf x2)), (149, (zf c.partitions.length)), (150, (zf x5)), (153, (zf x3))] 181 [.cells 26 (Ty.enc .sConfig c), .arr 116 .sBulkheadref15Piece x1] 0 | .l89 x0 x3 x2 x4 x5 x1 => stt [(1, .ref 0 0), (3, .own 1), (4, (zf x0)), (11, (zf x3)), (12, (zf x2)), (149, (zf c.partitions.length)), (150, (zf x4)), (153, (zf x5))] 181 [.cells 26 (Ty.enc .sConfig c), .arr 116 .sBulkheadref15Piece x1] 0 | .l28 x0 x3 x4 x5 x2 x1 => stt [(1, .ref 0 0), (3, .own 1), (4, (zf x0)), (11, (zf x3)), (149, (zf c.partitions.length)), (150, (zf x4)), (166, (zf x5)), (167, (zf x2))] 181 [.cells 26 (Ty.enc .sConfig c), .arr 116 .sBulkheadref15Piece x1] 0
noncomputable def zbk {R : Type} (ret : R47 -> R) (c : Config) (j : L47 -> Option R) : L47 -> Option R | .l0 x0 x1 x2 =>let y4 := (⟨x0, 2, (⟨3, x1, 0⟩ : Owner)⟩ : Bulkheadref15Piece); let y6 := (x2 : List Bulkheadref15Piece); let y1 := ((y6 ++ [y4]) : List Bulkheadref15Piece); let y7 := i64.wrap (x0 + 2); let y2 := (⟨y7, 17, (⟨4, x1, 0⟩ : Owner)⟩ : Bulkheadref15Piece); let y3 := (⟨(i64.wrap (y7 + 17)), 5, (⟨5, x1, 0⟩ : Owner)⟩ : Bulkheadref15Piece); let y5 := ((y1 ++ [y2]) : List Bulkheadref15Piece);  cond (decide (x1 < c.partitions.length)) (cond (leB ((y6.length + ([y4] : List Bulkheadref15Piece).length) * 40) 140737488355328) ( cond (leB ((y1.length + ([y2] : List Bulkheadref15Piece).length) * 40) 140737488355328) ( cond (leB ((y5.length + ([y3] : List Bulkheadref15Piece).length) * 40) 140737488355328) ( j (.l0 (i64.wrap (x0 + 24)) (i64.wrap (x1 + 1)) (y5 ++ [y3]))) none) none) none) (j (.l4 x0 0 x2)) | .l4 x0 x1 x2 =>let y1 := zn c.channels x1.toNat; let y3 := (⟨(i64.wrap (x0 + 2)), (zvy y1), (⟨7, x1, 0⟩ : Owner)⟩ : Bulkheadref15Piece); let y4 := (⟨x0, 2, (⟨6, x1, 0⟩ : Owner)⟩ : Bulkheadref15Piece); let y5 := (x2 : List Bulkheadref15Piece); let y2 := ((y5 ++ [y4]) : List Bulkheadref15Piece);  cond (decide (x1 < c.channels.length)) (cond (zN x1 c.channels.length) ( cond (leB ((y5.length + ([y4] : List Bulkheadref15Piece).length) * 40) 140737488355328) ( cond (leB ((y2.length + ([y3] : List Bulkheadref15Piece).length) * 40) 140737488355328) ( j (.l8 (i64.wrap (x0 + (i64.wrap (2 + (zvy y1))))) x1 x1 0 (y2 ++ [y3]) (y1.kind) (y1.words) (y1.depth))) none) none) none) (j (.l16 x0 x2)) | .l8 x0 x1 x2 x7 x3 x4 x5 x6 => cond (decide (x7 < c.partitions.length)) (cond (zN x7 c.partitions.length) (j (.l12 x0 x1 x7 x2 x7 (((za c.partitions x7.toNat).ports).length) 0 x3 x4 x5 x6)) none) (j (.l4 x0 (i64.wrap (x2 + 1)) x3)) | .l16 x0 x1 => cond (!(((bop .rem .i64 x0 16) : Int) == 0)) (j (.l16 (i64.wrap (x0 + 1)) x1)) (j (.l20 x0 0 x1)) | .l12 x0 x1 x8 x2 x9 x10 x7 x3 x4 x5 x6 =>let y2 := (za c.partitions x8.toNat).ports; let y3 := (zvx (⟨x4, x5, x6⟩ : Channel)); let y1 := (⟨x0, y3, (⟨8, x8, x7⟩ : Owner)⟩ : Bulkheadref15Piece); let y4 := (x3 : List Bulkheadref15Piece); let y5 := zaQ y2 x7.toNat;  cond (decide (x7 < x10)) (cond (zN x8 c.partitions.length) ( cond (zN x7 y2.length) ( cond ((y5.channel : Int) == x1) (cond (!(y5.source)) (cond (leB ((y4.length + ([y1] : List Bulkheadref15Piece).length) * 40) 140737488355328) ( j (.l61 (i64.wrap (x0 + y3)) x1 x8 x2 x9 x10 x7 (y4 ++ [y1]) x4 x5 x6)) none) (j (.l61 x0 x1 x8 x2 x9 x10 x7 x3 x4 x5 x6))) (j (.l61 x0 x1 x8 x2 x9 x10 x7 x3 x4 x5 x6))) none) none) (j (.l8 x0 x1 x2 (i64.wrap (x9 + 1)) x3 x4 x5 x6)) | .l20 x0 x2 x1 => cond (decide (x2 < c.partitions.length)) (j (.l24 x0 x2 1 x2 0 x1)) (some (ret x1)) | .l61 x0 x1 x7 x2 x8 x9 x10 x3 x4 x5 x6 => j (.l12 x0 x1 x7 x2 x8 x9 (i64.wrap (x10 + 1)) x3 x4 x5 x6) | .l24 x0 x4 x2 x5 x3 x1 =>let y1 := za c.partitions x4.toNat;  cond (decide (x3 < 16)) (cond (zN x4 c.partitions.length) ( cond (zx9 y1 x3) ( cond (zHf y1 x3) (j (.l89 x0 x4 (i64.wrap (x2 + 1)) x5 x3 x1)) (j (.l89 x0 x4 x2 x5 x3 x1))) none) none) (j (.l28 x0 x4 x5 x2 0 x1)) | .l89 x0 x3 x2 x4 x5 x1 => j (.l24 x0 x3 x2 x4 (i64.wrap (x5 + 1)) x1) | .l28 x0 x3 x4 x5 x2 x1 =>let y1 := (⟨x0, 16, (⟨9, x3, 0⟩ : Owner)⟩ : Bulkheadref15Piece); let y2 := (x1 : List Bulkheadref15Piece);  cond (decide (x2 < x5)) (cond (leB ((y2.length + ([y1] : List Bulkheadref15Piece).length) * 40) 140737488355328) ( j (.l28 (i64.wrap (x0 + 16)) x3 x4 x5 (i64.wrap (x2 + 1)) (y2 ++ [y1]))) none) (j (.l20 x0 (i64.wrap (x4 + 1)) x1))
noncomputable def zon {R : Type} (ret : R47 -> R) (c : Config) (j : L47 -> Option R) : Option R := cond (leB ((([] : List Bulkheadref15Piece).length + ([(⟨(i64.wrap (16 * c.kernel)), 2, (⟨2, 0, 0⟩ : Owner)⟩ : Bulkheadref15Piece)] : List Bulkheadref15Piece).length) * 40) 140737488355328) ( j (.l0 (i64.wrap ((i64.wrap (16 * c.kernel)) + 2)) 0 (([] : List Bulkheadref15Piece) ++ [(⟨(i64.wrap (16 * c.kernel)), 2, (⟨2, 0, 0⟩ : Owner)⟩ : Bulkheadref15Piece)]))) none
theorem ct47 (c : Config) (l : L47) : CT fun j => zbk id c j l := by cases l <;> (dsimp only [zbk]; repeat (first | exact ctJ _ | exact ctK _ | apply ctC))
def zb5 (c : Config) : L47 -> Option R47 := lfp (zbk id c)
theorem zaA (c : Config) (l : L47) : zb5 c l = zbk id c (zb5 c) l := zL (ct47 c) l
def zxd (c : Config) : Option R47 := zon id c (zb5 c)
def zer (c : Config) : R47 := (zxd c).getD default
def zno (c : Config) : Bool := (zxd c).isSome
theorem zTS (c : Config) (hc : zno c = true) : Okay Pr GL 47 [.agg (Ty.enc .sConfig c)] [] (zH5 (zer c)) := zG (H := H47) (bod := zbk id c) (ent := zon id c) (bodA := zbk zH5 c) (entA := zon zH5 c) zrH zA Tryz.func47 rfl (by kernel_rfl) zH5 zSW (st47 c) (fun J l => by cases l <;> kernel_rfl) (fun J => by kernel_rfl) (fun s l => by cases l <;> simp only [zbk, zc, zt, zu, id]) (fun s => by simp only [zon, zc, zt, zu, id]) (ct47 c) (by dsimp only [zon]; repeat (first | exact ctJ _ | exact ctK _ | apply ctC)) hc
abbrev zzc := AdmitFound
def zyv (r : zzc) : zT := ⟨.agg [(zf r.e), (zf r.where_.first), (zf r.where_.second)], []⟩
inductive zrX where | l0 (x3 : Int) (x0 : Int) (x1 : Int) (x2 : Int) | l4 (x3 : Int) (x0 : Int) (x1 : Int) (x2 : Int)
def zMY : zrX -> Nat | .l0 _ _ _ _ => 0 | .l4 _ _ _ _ => 4
def H138 : zS := htt [] [(0, ⟨z7 [1, 2, 4, 5, 6, 7, 75, 76, 96, 97, 98] 118 0, []⟩), (4, ⟨z7 [1, 2, 4, 5, 6, 8] 118 0, []⟩)] []
noncomputable def zVk (c : Config) (p : Int) : zrX -> St | .l0 x3 x0 x1 x2 => stt [(1, (zf p)), (2, .ref 0 0), (4, .ref 1 0), (5, .ref 2 0), (6, .ref 3 0), (7, (zf x3))] 118 [.cells 26 (Ty.enc .sConfig c), .cells 184 [(zf 0), (zf 0), (zf 0)], .cells 70 (Ty.enc .sPartition (za c.partitions p.toNat)), .cells 184 [(zf x0), (zf x1), (zf x2)]] 0 | .l4 x3 x0 x1 x2 => stt [(1, (zf p)), (2, .ref 0 0), (4, .ref 1 0), (5, .ref 2 0), (6, .ref 3 0), (8, (zf x3))] 118 [.cells 26 (Ty.enc .sConfig c), .cells 184 [(zf 0), (zf 0), (zf 0)], .cells 70 (Ty.enc .sPartition (za c.partitions p.toNat)), .cells 184 [(zf x0), (zf x1), (zf x2)]] 0
noncomputable def zcr {R : Type} (ret : zzc -> R) (c : Config) (p : Int) (j : zrX -> Option R) : zrX -> Option R | .l0 x3 x0 x1 x2 =>let y4 := za c.partitions p.toNat; let y1 := (zr (decide (((y4.ports).length : Int) <= 8)) 413 (zE p)); let y2 := zr (zwH y4) 412 (zE p); let y5 := (x0 == fine.e) && (((x1 == fine.where_.first) && ((x2 == fine.where_.second) && true)) && true); let y6 := zaK [y2, y1]; let y7 := zr false 412 (zE p); let y3 := zaK [y7, y1]; let y8 := (⟨x0, (⟨x1, x2⟩ : Where)⟩ : AdmitFound); let y9 := zmB c p x3; let y10 := zY (y4.entry) 0 4095;  cond (decide (x3 < (y4.regions).length)) (cond y5 (cond (zrs c p x3) (j (.l0 (i64.wrap (x3 + 1)) (y9.e) (y9.where_.first) (y9.where_.second))) none) (cond (!y5) (some (ret y8)) (cond y10 (cond (znf y4) ( cond (zaU [y2, y1]) ( j (.l4 0 (y6.e) (y6.where_.first) (y6.where_.second))) none) none) (cond (zaU [y7, y1]) ( j (.l4 0 (y3.e) (y3.where_.first) (y3.where_.second))) none)))) (cond (!y5) (some (ret y8)) (cond y10 (cond (znf y4) ( cond (zaU [y2, y1]) ( j (.l4 0 (y6.e) (y6.where_.first) (y6.where_.second))) none) none) (cond (zaU [y7, y1]) ( j (.l4 0 (y3.e) (y3.where_.first) (y3.where_.second))) none))) | .l4 x3 x0 x1 x2 =>let y2 := (za c.partitions p.toNat).ports; let y1 := zr (zY ((zaQ y2 x3.toNat).channel) 0 (i64.wrap (c.channels.length - 1))) 414 (zam p x3); let y3 := (⟨x0, (⟨x1, x2⟩ : Where)⟩ : AdmitFound);  cond (decide (x3 < y2.length)) (cond ((x0 == fine.e) && (((x1 == fine.where_.first) && ((x2 == fine.where_.second) && true)) && true)) (cond (zN x3 y2.length) ( j (.l4 (i64.wrap (x3 + 1)) (y1.e) (y1.where_.first) (y1.where_.second))) none) (some (ret y3))) (some (ret y3))
noncomputable def zi2 {R : Type} (ret : zzc -> R) (c : Config) (p : Int) (j : zrX -> Option R) : Option R := cond (zN p c.partitions.length) ( cond (zrr c p) ( cond (zY ((za c.partitions p.toNat).action) 0 2) (cond (zY ((za c.partitions p.toNat).inputs) 0 16) (cond (zaU [(zr (zcj c p) 405 (zE p)), (zr (zY ((za c.partitions p.toNat).restarts) 0 15) 406 (zE p)), (zr (zY ((za c.partitions p.toNat).outputs) 0 16) 407 (zE p)), (zr (zY (((za c.partitions p.toNat).regions).length) 1 8) 408 (zE p))]) ( j (.l0 0 ((zaK [(zr (zcj c p) 405 (zE p)), (zr (zY ((za c.partitions p.toNat).restarts) 0 15) 406 (zE p)), (zr (zY ((za c.partitions p.toNat).outputs) 0 16) 407 (zE p)), (zr (zY (((za c.partitions p.toNat).regions).length) 1 8) 408 (zE p))]).e) ((zaK [(zr (zcj c p) 405 (zE p)), (zr (zY ((za c.partitions p.toNat).restarts) 0 15) 406 (zE p)), (zr (zY ((za c.partitions p.toNat).outputs) 0 16) 407 (zE p)), (zr (zY (((za c.partitions p.toNat).regions).length) 1 8) 408 (zE p))]).where_.first) ((zaK [(zr (zcj c p) 405 (zE p)), (zr (zY ((za c.partitions p.toNat).restarts) 0 15) 406 (zE p)), (zr (zY ((za c.partitions p.toNat).outputs) 0 16) 407 (zE p)), (zr (zY (((za c.partitions p.toNat).regions).length) 1 8) 408 (zE p))]).where_.second))) none) (cond (zaU [(zr (zcj c p) 405 (zE p)), (zr (zY ((za c.partitions p.toNat).restarts) 0 15) 406 (zE p)), (zr false 407 (zE p)), (zr (zY (((za c.partitions p.toNat).regions).length) 1 8) 408 (zE p))]) ( j (.l0 0 ((zaK [(zr (zcj c p) 405 (zE p)), (zr (zY ((za c.partitions p.toNat).restarts) 0 15) 406 (zE p)), (zr false 407 (zE p)), (zr (zY (((za c.partitions p.toNat).regions).length) 1 8) 408 (zE p))]).e) ((zaK [(zr (zcj c p) 405 (zE p)), (zr (zY ((za c.partitions p.toNat).restarts) 0 15) 406 (zE p)), (zr false 407 (zE p)), (zr (zY (((za c.partitions p.toNat).regions).length) 1 8) 408 (zE p))]).where_.first) ((zaK [(zr (zcj c p) 405 (zE p)), (zr (zY ((za c.partitions p.toNat).restarts) 0 15) 406 (zE p)), (zr false 407 (zE p)), (zr (zY (((za c.partitions p.toNat).regions).length) 1 8) 408 (zE p))]).where_.second))) none)) (cond (zY ((za c.partitions p.toNat).inputs) 0 16) (cond (zaU [(zr (zcj c p) 405 (zE p)), (zr false 406 (zE p)), (zr (zY ((za c.partitions p.toNat).outputs) 0 16) 407 (zE p)), (zr (zY (((za c.partitions p.toNat).regions).length) 1 8) 408 (zE p))]) ( j (.l0 0 ((zaK [(zr (zcj c p) 405 (zE p)), (zr false 406 (zE p)), (zr (zY ((za c.partitions p.toNat).outputs) 0 16) 407 (zE p)), (zr (zY (((za c.partitions p.toNat).regions).length) 1 8) 408 (zE p))]).e) ((zaK [(zr (zcj c p) 405 (zE p)), (zr false 406 (zE p)), (zr (zY ((za c.partitions p.toNat).outputs) 0 16) 407 (zE p)), (zr (zY (((za c.partitions p.toNat).regions).length) 1 8) 408 (zE p))]).where_.first) ((zaK [(zr (zcj c p) 405 (zE p)), (zr false 406 (zE p)), (zr (zY ((za c.partitions p.toNat).outputs) 0 16) 407 (zE p)), (zr (zY (((za c.partitions p.toNat).regions).length) 1 8) 408 (zE p))]).where_.second))) none) (cond (zaU [(zr (zcj c p) 405 (zE p)), (zr false 406 (zE p)), (zr false 407 (zE p)), (zr (zY (((za c.partitions p.toNat).regions).length) 1 8) 408 (zE p))]) ( j (.l0 0 ((zaK [(zr (zcj c p) 405 (zE p)), (zr false 406 (zE p)), (zr false 407 (zE p)), (zr (zY (((za c.partitions p.toNat).regions).length) 1 8) 408 (zE p))]).e) ((zaK [(zr (zcj c p) 405 (zE p)), (zr false 406 (zE p)), (zr false 407 (zE p)), (zr (zY (((za c.partitions p.toNat).regions).length) 1 8) 408 (zE p))]).where_.first) ((zaK [(zr (zcj c p) 405 (zE p)), (zr false 406 (zE p)), (zr false 407 (zE p)), (zr (zY (((za c.partitions p.toNat).regions).length) 1 8) 408 (zE p))]).where_.second))) none))) none) none
theorem zJo (c : Config) (p : Int) (l : zrX) : CT fun j => zcr id c p j l := by cases l <;> (dsimp only [zcr]; repeat (first | exact ctJ _ | exact ctK _ | apply ctC))
def zmJ (c : Config) (p : Int) : zrX -> Option zzc := lfp (zcr id c p)
theorem zde (c : Config) (p : Int) (l : zrX) : zmJ c p l = zcr id c p (zmJ c p) l := zL (zJo c p) l
def zqL (c : Config) (p : Int) : Option zzc := zi2 id c p (zmJ c p)
def zo5 (c : Config) (p : Int) : zzc := (zqL c p).getD default
def zri (c : Config) (p : Int) : Bool := (zqL c p).isSome
theorem zNM (c : Config) (p : Int) (hc : zri c p = true) : Okay Pr GL 138 [.agg (Ty.enc .sConfig c), (zf p)] [] (zyv (zo5 c p)) := zG (H := H138) (bod := zcr id c p) (ent := zi2 id c p) (bodA := zcr zyv c p) (entA := zi2 zyv c p) zrH zA Tryz.func138 rfl (by kernel_rfl) zyv zMY (zVk c p) (fun J l => by cases l <;> kernel_rfl) (fun J => by kernel_rfl) (fun s l => by cases l <;> simp only [zcr, zc, zt, zu, id]) (fun s => by simp only [zi2, zc, zt, zu, id]) (zJo c p) (by dsimp only [zi2]; repeat (first | exact ctJ _ | exact ctK _ | apply ctC)) hc
abbrev zEi := AdmitFound
def zDm (r : zEi) : zT := ⟨.agg [(zf r.e), (zf r.where_.first), (zf r.where_.second)], []⟩
noncomputable def zlE {R : Type} (ret : zEi -> R) (a : Config) (a_1 : Int) : Option R := cond (zrj a a_1) (some (ret (zo6 a a_1))) none
def zqM (a : Config) (a_1 : Int) : Option zEi := zlE id a a_1
def zif (a : Config) (a_1 : Int) : zEi := (zqM a a_1).getD default
def zvH (a : Config) (a_1 : Int) : Bool := (zqM a a_1).isSome
theorem zBR (a : Config) (a_1 : Int) (hc : zvH a a_1 = true) : Okay Pr GL 139 [.op .sConfig (some a), .op (.i .i64) (some a_1)] [] (zDm (zif a a_1)) := zy (H := H57) (ent := zlE id a a_1) (entA := zlE zDm a a_1) zrH zA Tryz.func139 rfl (by kernel_rfl) zDm (fun J => by kernel_rfl) (by simp only [zlE, zc, zt, zu, id]) hc
abbrev zEj := AdmitFound
def zDn (r : zEj) : zT := ⟨.agg [(zf r.e), (zf r.where_.first), (zf r.where_.second)], []⟩
noncomputable def zlF {R : Type} (ret : zEj -> R) (a : Config) (a_1 : Int) : Option R := cond (zrk a a_1) (some (ret (zo7 a a_1))) none
def zqO (a : Config) (a_1 : Int) : Option zEj := zlF id a a_1
def zig (a : Config) (a_1 : Int) : zEj := (zqO a a_1).getD default
def zvI (a : Config) (a_1 : Int) : Bool := (zqO a a_1).isSome
theorem zBS (a : Config) (a_1 : Int) (hc : zvI a a_1 = true) : Okay Pr GL 141 [.op .sConfig (some a), .op (.i .i64) (some a_1)] [] (zDn (zig a a_1)) := zy (H := H57) (ent := zlF id a a_1) (entA := zlF zDn a a_1) zrH zA Tryz.func141 rfl (by kernel_rfl) zDn (fun J => by kernel_rfl) (by simp only [zlF, zc, zt, zu, id]) hc
abbrev zEm := Int
def zDq (r : zEm) : zT := ⟨(zf r), []⟩
noncomputable def zlI {R : Type} (ret : zEm -> R) (s_0 : LayoutSize) : Option R := some (ret (zvv s_0.channel))
def zm4 (s_0 : LayoutSize) : Option zEm := zlI id s_0
def zwE (s_0 : LayoutSize) : zEm := (zm4 s_0).getD default
theorem zGW (s_0 : LayoutSize) : zm4 s_0 = some (zwE s_0) := zC (show (zm4 s_0).isSome = true by simp only [zm4, zlI, zF, Option.isSome_some, zO])
theorem zBV (s_0 : LayoutSize) : Okay Pr GL 146 [.agg (Ty.enc .sLayoutSize s_0)] [] (zDq (zwE s_0)) := zy (H := H57) (ent := zlI id s_0) (entA := zlI zDq s_0) zrH zA Tryz.func146 rfl (by kernel_rfl) zDq (fun J => by kernel_rfl) (by simp only [zlI, zc, zt, zu, id]) (show (zm4 s_0).isSome = true by rw [zGW]; rfl)
def g101 := zJ (zH (rdS .sConfig) fun a0 => zH (zZ (.i .i64)) fun a1 => zH (zZ (.i .i64)) fun a2 => zI ((zq8 a0 a1 a2), (zf (zoY a0 a1 a2)), []))
theorem zE1 : zD 101 g101 := zk (zB Tryz.func101 (by kernel_rfl) rfl) (zg fun x0 a0 h0 => zg fun x1 a1 h1 => zg fun x2 a2 h2 => zj fun hb => (zNi a0 a1 a2 hb).ats (.cons (zP h0) (.cons (zp h1) (.cons (zp h2) .nil))))
def g46 := zJ (zH (rdS .sConfig) fun a0 => zI ((znn a0), (zX (zvo a0)), []))
theorem zLD : zD 46 g46 := zk (zB Tryz.func46 (by kernel_rfl) rfl) (zg fun x0 a0 h0 => zj fun hb => (zTR a0 hb).ats (.cons (zP h0) .nil))
def g47 := zJ (zH (rdS .sConfig) fun a0 => zI ((zno a0), .own 0, [.arr 116 .sBulkheadref15Piece (zer a0)]))
theorem zLE : zD 47 g47 := zk (zB Tryz.func47 (by kernel_rfl) rfl) (zg fun x0 a0 h0 => zj fun hb => (zTS a0 hb).ats (.cons (zP h0) .nil))
def g138 := zJ (zH (rdS .sConfig) fun a0 => zH (zZ (.i .i64)) fun a1 => zI ((zri a0 a1), .agg [(zf ((zo5 a0 a1).e)), (zf ((zo5 a0 a1).where_.first)), (zf ((zo5 a0 a1).where_.second))], []))
theorem zFC : zD 138 g138 := zk (zB Tryz.func138 (by kernel_rfl) rfl) (zg fun x0 a0 h0 => zg fun x1 a1 h1 => zj fun hb => (zNM a0 a1 hb).ats (.cons (zP h0) (.cons (zp h1) .nil)))
def g139 := zJ (zH (rdP .sConfig) fun a0 => zH (rdP (.i .i64)) fun a1 => zI ((zvH a0 a1), .agg [(zf ((zif a0 a1).e)), (zf ((zif a0 a1).where_.first)), (zf ((zif a0 a1).where_.second))], []))
theorem zFD : zD 139 g139 := zk (zB Tryz.func139 (by kernel_rfl) rfl) (zg fun x0 a0 h0 => zg fun x1 a1 h1 => zj fun hb => (zBR a0 a1 hb).ats (.cons (zbE h0) (.cons (zbE h1) .nil)))
def g141 := zJ (zH (rdP .sConfig) fun a0 => zH (rdP (.i .i64)) fun a1 => zI ((zvI a0 a1), .agg [(zf ((zig a0 a1).e)), (zf ((zig a0 a1).where_.first)), (zf ((zig a0 a1).where_.second))], []))
theorem zFF : zD 141 g141 := zk (zB Tryz.func141 (by kernel_rfl) rfl) (zg fun x0 a0 h0 => zg fun x1 a1 h1 => zj fun hb => (zBS a0 a1 hb).ats (.cons (zbE h0) (.cons (zbE h1) .nil)))
def g146 := zJ (zH (rdS .sLayoutSize) fun a0 => zI (true, (zf (zwE a0)), []))
theorem zFK : zD 146 g146 := zk (zB Tryz.func146 (by kernel_rfl) rfl) (zg fun x0 a0 h0 => zj fun hb => (zBV a0).ats (.cons (zP h0) .nil))
noncomputable def GD : Gam := zd2 [(101, g101), (46, g46), (47, g47), (138, g138), (139, g139), (141, g141), (146, g146)] GC
theorem zAp : GOk Pr GL GD := zaH ⟨zE1, zLD, zLE, zFC, zFD, zFF, zFK, trivial⟩ zrH
abbrev R58 := Int × Where
def zIa (r : R58) : zT := ⟨.tup [(zf r.1), .agg [(zf r.2.first), (zf r.2.second)]], []⟩
inductive L58 where | l2 (x0 : Int) | l6 (x0 : Int)
def zS1 : L58 -> Nat | .l2 _ => 2 | .l6 _ => 6
def H58 : zS := htt [] [(2, ⟨z7 [1, 2, 5, 6, 7] 107 0, []⟩), (6, ⟨z7 [1, 2, 5, 6, 9] 107 0, []⟩)] []
noncomputable def st58 (c : Config) (p : Int) : L58 -> St | .l2 x0 => stt [(1, (zf p)), (2, .ref 0 0), (5, .ref 1 0), (6, .ref 2 0), (7, (zf x0))] 107 [.cells 26 (Ty.enc .sConfig c), .cells 76 [(zf 0), (zf 0)], .cells 70 (Ty.enc .sPartition (za c.partitions p.toNat))] 0 | .l6 x0 => stt [(1, (zf p)), (2, .ref 0 0), (5, .ref 1 0), (6, .ref 2 0), (9, (zf x0))] 107 [.cells 26 (Ty.enc .sConfig c), .cells 76 [(zf 0), (zf 0)], .cells 70 (Ty.enc .sPartition (za c.partitions p.toNat))] 0
noncomputable def zfB {R : Type} (ret : R58 -> R) (c : Config) (p : Int) (j : L58 -> Option R) : L58 -> Option R | .l2 x0 =>let y1 := za c.partitions p.toNat;  cond (decide (x0 < (y1.regions).length)) (cond (zq8 c p x0) ( cond (!(((zoY c p x0) : Int) == 0)) (some (ret ((zoY c p x0), (⟨p, x0⟩ : Where)))) (j (.l2 (i64.wrap (x0 + 1))))) none) (cond (zq9 y1) ( cond (!(zwz y1)) (some (ret (412, (zhp p)))) (cond (decide (((y1.ports).length : Int) > 8)) (some (ret (413, (zhp p)))) (j (.l6 0)))) none) | .l6 x0 =>let y1 := (za c.partitions p.toNat).ports;  cond (decide (x0 < y1.length)) (cond (zN x0 y1.length) ( cond (!(zaZ ((zaQ y1 x0.toNat).channel) 0 (i64.wrap (c.channels.length - 1)))) (some (ret (414, (⟨p, x0⟩ : Where)))) (j (.l6 (i64.wrap (x0 + 1))))) none) (some (ret (0, (⟨0, 0⟩ : Where))))
noncomputable def zos {R : Type} (ret : R58 -> R) (c : Config) (p : Int) (j : L58 -> Option R) : Option R := cond (zN p c.partitions.length) ( cond (zq7 c p) ( cond (!(zwy c p)) (some (ret (405, (zhp p)))) (cond (!(zaZ ((za c.partitions p.toNat).action) 0 2)) (some (ret (406, (zhp p)))) (cond (!(zaZ ((za c.partitions p.toNat).restarts) 0 15)) (some (ret (406, (zhp p)))) (cond (!(zaZ ((za c.partitions p.toNat).inputs) 0 16)) (some (ret (407, (zhp p)))) (cond (!(zaZ ((za c.partitions p.toNat).outputs) 0 16)) (some (ret (407, (zhp p)))) (cond (!(zaZ (((za c.partitions p.toNat).regions).length) 1 8)) (some (ret (408, (zhp p)))) (j (.l2 0)))))))) none) none
theorem ct58 (c : Config) (p : Int) (l : L58) : CT fun j => zfB id c p j l := by cases l <;> (dsimp only [zfB]; repeat (first | exact ctJ _ | exact ctK _ | apply ctC))
def zpr (c : Config) (p : Int) : L58 -> Option R58 := lfp (zfB id c p)
theorem zio (c : Config) (p : Int) (l : L58) : zpr c p l = zfB id c p (zpr c p) l := zL (ct58 c p) l
def zxe (c : Config) (p : Int) : Option R58 := zos id c p (zpr c p)
def zvr (c : Config) (p : Int) : R58 := (zxe c p).getD default
def zxR (c : Config) (p : Int) : Bool := (zxe c p).isSome
theorem zT2 (c : Config) (p : Int) (hc : zxR c p = true) : Okay Pr GL 58 [.agg (Ty.enc .sConfig c), (zf p)] [] (zIa (zvr c p)) := zG (H := H58) (bod := zfB id c p) (ent := zos id c p) (bodA := zfB zIa c p) (entA := zos zIa c p) zAp zA Tryz.func58 rfl (by kernel_rfl) zIa zS1 (st58 c p) (fun J l => by cases l <;> kernel_rfl) (fun J => by kernel_rfl) (fun s l => by cases l <;> simp only [zfB, zc, zt, zu, id]) (fun s => by simp only [zos, zc, zt, zu, id]) (ct58 c p) (by dsimp only [zos]; repeat (first | exact ctJ _ | exact ctK _ | apply ctC)) hc
abbrev R22 := Owner × Int
def zHO (r : R22) : zT := ⟨.tup [.agg [(zf r.1.kind), (zf r.1.index), (zf r.1.port)], (zf r.2)], []⟩
inductive L22 where | l0 (x0 : Int) | l4 (x0 : Int) | l8 (x1 : Int) (x2 : Int) (x3 : Int) (x0 : Int)
def zSF : L22 -> Nat | .l0 _ => 0 | .l4 _ => 4 | .l8 _ _ _ _ => 8
def H22 : zS := htt [] [(0, ⟨z7 [1, 2, 4, 6, 33, 34, 94, 95, 96, 99, 100, 101, 102, 103, 106, 107, 108, 109, 110, 111, 112, 113] 120 0, []⟩), (4, ⟨z7 [1, 2, 4, 67, 68, 94, 95, 96, 99, 100, 101, 102, 103, 106, 107, 108, 109, 110, 111, 112, 113] 120 0, []⟩), (8, ⟨z7 [1, 2, 4, 8, 67, 68, 77, 78] 120 0, []⟩)] []
noncomputable def st22 (c : Config) (at_1 : Int) : L22 -> St | .l0 x0 => stt [(1, (zf at_1)), (2, .ref 0 0), (4, .ref 1 0), (6, .own 2), (33, (zf ((zer c).length))), (34, (zf x0))] 120 [.cells 26 (Ty.enc .sConfig c), .cells 42 [(zf 0), (zf 0), (zf 0)], .arr 116 .sBulkheadref15Piece (zer c)] 0 | .l4 x0 => stt [(1, (zf at_1)), (2, .ref 0 0), (4, .ref 1 0), (67, (zf c.partitions.length)), (68, (zf x0))] 120 [.cells 26 (Ty.enc .sConfig c), .cells 42 [(zf 0), (zf 0), (zf 0)]] 0 | .l8 x1 x2 x3 x0 => stt [(1, (zf at_1)), (2, .ref 0 0), (4, .ref 1 0), (8, (zf x1)), (67, (zf c.partitions.length)), (68, (zf x2)), (77, (zf x3)), (78, (zf x0))] 120 [.cells 26 (Ty.enc .sConfig c), .cells 42 [(zf 0), (zf 0), (zf 0)]] 0
noncomputable def znY {R : Type} (ret : R22 -> R) (c : Config) (at_1 : Int) (j : L22 -> Option R) : L22 -> Option R | .l0 x0 =>let y1 := za0 (zer c) x0.toNat; let y2 := zN x0 (zer c).length; let y3 := i64.wrap (x0 + 1);  cond (decide (x0 < (zer c).length)) (cond y2 ( cond (decide ((y1.at_ : Int) <= at_1)) (cond y2 ( cond y2 ( cond (decide ((at_1 : Int) < (i64.wrap (y1.at_ + y1.size)))) (cond y2 (some (ret (y1.owner, 0))) none) (j (.l0 y3))) none) none) (j (.l0 y3))) none) (j (.l4 0)) | .l4 x0 => cond (decide (x0 < c.partitions.length)) (cond (zN x0 c.partitions.length) (j (.l8 x0 x0 (((za c.partitions x0.toNat).regions).length) 0)) none) (some (ret ((⟨0, 0, 0⟩ : Owner), 0))) | .l8 x1 x2 x3 x0 =>let y2 := i64.wrap (x0 + 1); let y3 := (za c.partitions x1.toNat).regions; let y1 := zh y3 x0.toNat; let y4 := (y1.frame : Int); let y5 := bop .quo .i64 at_1 16;  cond (decide (x0 < x3)) (cond (zN x1 c.partitions.length) ( cond (zN x0 y3.length) ( cond (decide (y4 >= 0)) (cond (decide (y4 <= 1024)) (cond (decide (y4 <= y5)) (cond (decide ((y5 : Int) < (i64.wrap (y1.frame + y1.pages)))) (some (ret ((⟨1, x1, 0⟩ : Owner), 0))) (j (.l8 x1 x2 x3 y2))) (j (.l8 x1 x2 x3 y2))) (j (.l8 x1 x2 x3 y2))) (j (.l8 x1 x2 x3 y2))) none) none) (j (.l4 (i64.wrap (x2 + 1))))
noncomputable def zsu {R : Type} (ret : R22 -> R) (c : Config) (at_1 : Int) (j : L22 -> Option R) : Option R := cond (znn c) ( cond (!(zvo c)) (some (ret ((⟨0, 0, 0⟩ : Owner), 150))) (cond (decide ((at_1 : Int) < 0)) (some (ret ((⟨0, 0, 0⟩ : Owner), 151))) (cond (decide (((bop .quo .i64 at_1 16) : Int) >= c.frames)) (some (ret ((⟨0, 0, 0⟩ : Owner), 151))) (cond (decide (((bop .quo .i64 at_1 16) : Int) >= 1024)) (some (ret ((⟨0, 0, 0⟩ : Owner), 151))) (cond (zno c) (j (.l0 0)) none))))) none
theorem ct22 (c : Config) (at_1 : Int) (l : L22) : CT fun j => znY id c at_1 j l := by cases l <;> (dsimp only [znY]; repeat (first | exact ctJ _ | exact ctK _ | apply ctC))
def zUW (c : Config) (at_1 : Int) : L22 -> Option R22 := lfp (znY id c at_1)
def zJW (c : Config) (at_1 : Int) : Option R22 := zsu id c at_1 (zUW c at_1)
def zz5 (c : Config) (at_1 : Int) : R22 := (zJW c at_1).getD default
def zCC (c : Config) (at_1 : Int) : Bool := (zJW c at_1).isSome
theorem zTu (c : Config) (at_1 : Int) (hc : zCC c at_1 = true) : Okay Pr GL 22 [.agg (Ty.enc .sConfig c), (zf at_1)] [] (zHO (zz5 c at_1)) := zG (H := H22) (bod := znY id c at_1) (ent := zsu id c at_1) (bodA := znY zHO c at_1) (entA := zsu zHO c at_1) zAp zA Tryz.func22 rfl (by kernel_rfl) zHO zSF (st22 c at_1) (fun J l => by cases l <;> kernel_rfl) (fun J => by kernel_rfl) (fun s l => by cases l <;> simp only [znY, zc, zt, zu, id]) (fun s => by simp only [zsu, zc, zt, zu, id]) (ct22 c at_1) (by dsimp only [zsu]; repeat (first | exact ctJ _ | exact ctK _ | apply ctC)) hc
abbrev zEh := AdmitFound
def zDl (r : zEh) : zT := ⟨.agg [(zf r.e), (zf r.where_.first), (zf r.where_.second)], []⟩
noncomputable def zlD {R : Type} (ret : zEh -> R) (a : Config) (a_1 : Int) : Option R := cond (zri a a_1) (some (ret (zo5 a a_1))) none
def zqK (a : Config) (a_1 : Int) : Option zEh := zlD id a a_1
def zie (a : Config) (a_1 : Int) : zEh := (zqK a a_1).getD default
def zvG (a : Config) (a_1 : Int) : Bool := (zqK a a_1).isSome
theorem zBQ (a : Config) (a_1 : Int) (hc : zvG a a_1 = true) : Okay Pr GL 137 [.op .sConfig (some a), .op (.i .i64) (some a_1)] [] (zDl (zie a a_1)) := zy (H := H57) (ent := zlD id a a_1) (entA := zlD zDl a a_1) zAp zA Tryz.func137 rfl (by kernel_rfl) zDl (fun J => by kernel_rfl) (by simp only [zlD, zc, zt, zu, id]) hc
abbrev R98 := (List LayoutAsked)
def zIp (r : R98) : zT := ⟨.own 0, [.arr 189 .sLayoutAsked r]⟩
inductive L98 where | l0 (x0 : Int) (x1 : List LayoutAsked)
def zTg : L98 -> Nat | .l0 _ _ => 0
def H98 : zS := htt [] [(0, ⟨z7 [3, 8, 9, 10] 26 0, [(.slot 3, .own 189 .sLayoutAsked)]⟩)] []
noncomputable def st98 (c : Config) : L98 -> St | .l0 x0 x1 => stt [(3, .own 0), (8, .sl .sChannel c.channels), (9, (zf c.channels.length)), (10, (zf x0))] 26 [.arr 189 .sLayoutAsked x1] 0
noncomputable def zn6 {R : Type} (ret : R98 -> R) (c : Config) (j : L98 -> Option R) : L98 -> Option R | .l0 x0 x1 =>let y2 := zn c.channels x0.toNat; let y1 := (⟨(⟨y2.kind, y2.words, y2.depth⟩ : Channel)⟩ : LayoutSize); let y3 := (⟨(Clo.c145 y1), (Clo.c146 y1)⟩ : LayoutAsked); let y4 := (x1 : List LayoutAsked);  cond (decide (x0 < c.channels.length)) (cond (zN x0 c.channels.length) ( cond (leB ((y4.length + ([y3] : List LayoutAsked).length) * 16) 140737488355328) ( j (.l0 (i64.wrap (x0 + 1)) (y4 ++ [y3]))) none) none) (some (ret x1))
noncomputable def ztc {R : Type} (ret : R98 -> R) (c : Config) (j : L98 -> Option R) : Option R := j (.l0 0 [])
theorem ct98 (c : Config) (l : L98) : CT fun j => zn6 id c j l := by cases l <;> (dsimp only [zn6]; repeat (first | exact ctJ _ | exact ctK _ | apply ctC))
def zU4 (c : Config) : L98 -> Option R98 := lfp (zn6 id c)
def zJ7 (c : Config) : Option R98 := ztc id c (zU4 c)
def ztY (c : Config) : R98 := (zJ7 c).getD default
def zCJ (c : Config) : Bool := (zJ7 c).isSome
theorem zUG (c : Config) (hc : zCJ c = true) : Okay Pr GL 98 [.agg (Ty.enc .sConfig c)] [] (zIp (ztY c)) := zG (H := H98) (bod := zn6 id c) (ent := ztc id c) (bodA := zn6 zIp c) (entA := ztc zIp c) zAp zA Tryz.func98 rfl (by kernel_rfl) zIp zTg (st98 c) (fun J l => by cases l <;> kernel_rfl) (fun J => by kernel_rfl) (fun s l => by cases l <;> simp only [zn6, zc, zt, zu, id]) (fun s => by simp only [ztc, zc, zt, zu, id]) (ct98 c) (by dsimp only [ztc]; repeat (first | exact ctJ _ | exact ctK _ | apply ctC)) hc
def g58 := zJ (zH (rdS .sConfig) fun a0 => zH (zZ (.i .i64)) fun a1 => zI ((zxR a0 a1), .tup [(zf ((zvr a0 a1).1)), .agg [(zf ((zvr a0 a1).2.first)), (zf ((zvr a0 a1).2.second))]], []))
theorem zLO : zD 58 g58 := zk (zB Tryz.func58 (by kernel_rfl) rfl) (zg fun x0 a0 h0 => zg fun x1 a1 h1 => zj fun hb => (zT2 a0 a1 hb).ats (.cons (zP h0) (.cons (zp h1) .nil)))
def g22 := zJ (zH (rdS .sConfig) fun a0 => zH (zZ (.i .i64)) fun a1 => zI ((zCC a0 a1), .tup [.agg [(zf ((zz5 a0 a1).1.kind)), (zf ((zz5 a0 a1).1.index)), (zf ((zz5 a0 a1).1.port))], (zf ((zz5 a0 a1).2))], []))
theorem zLg : zD 22 g22 := zk (zB Tryz.func22 (by kernel_rfl) rfl) (zg fun x0 a0 h0 => zg fun x1 a1 h1 => zj fun hb => (zTu a0 a1 hb).ats (.cons (zP h0) (.cons (zp h1) .nil)))
def g137 := zJ (zH (rdP .sConfig) fun a0 => zH (rdP (.i .i64)) fun a1 => zI ((zvG a0 a1), .agg [(zf ((zie a0 a1).e)), (zf ((zie a0 a1).where_.first)), (zf ((zie a0 a1).where_.second))], []))
theorem zFB : zD 137 g137 := zk (zB Tryz.func137 (by kernel_rfl) rfl) (zg fun x0 a0 h0 => zg fun x1 a1 h1 => zj fun hb => (zBQ a0 a1 hb).ats (.cons (zbE h0) (.cons (zbE h1) .nil)))
def g98 := zJ (zH (rdS .sConfig) fun a0 => zI ((zCJ a0), .own 0, [.arr 189 .sLayoutAsked (ztY a0)]))
theorem zMs : zD 98 g98 := zk (zB Tryz.func98 (by kernel_rfl) rfl) (zg fun x0 a0 h0 => zj fun hb => (zUG a0 hb).ats (.cons (zP h0) .nil))
noncomputable def GE : Gam := zd2 [(58, g58), (22, g22), (137, g137), (98, g98)] GD
theorem zDP : GOk Pr GL GE := zaH ⟨zLO, zLg, zFB, zMs, trivial⟩ zAp
end Go.Proofs.YtgfifnadfmaolaaGreatDoor
end
