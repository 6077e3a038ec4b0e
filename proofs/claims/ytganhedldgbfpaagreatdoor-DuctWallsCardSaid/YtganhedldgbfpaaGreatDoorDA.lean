import Derived.Test.YtganhedldgbfpaaGreatDoorW8
import Derived.Test.YtganhedldgbfpaaGreatDoorD
set_option linter.unusedVariables false
set_option linter.unusedSimpArgs false
set_option linter.unusedSectionVars false
noncomputable section
open Go.IntKind (i64 u32)
namespace Go.Proofs.YtganhedldgbfpaaGreatDoor
open Go.RowKit
theorem zf (i : Nat) (h : i < 4611686018427387904) : i64.wrap ((i : Int) + 1) = ((i + 1 : Nat) : Int) := by rw [zaO _ (by omega) (by omega)]; omega
theorem zR {i n : Nat} (h : i < n) : decide ((i : Int) < (n : Int)) = true := decide_eq_true (by omega)
theorem zS {i n : Nat} (h : n <= i) : decide ((i : Int) < (n : Int)) = false := decide_eq_false (by omega)
theorem zz {σ R : Type} {n : Nat} {f : Nat -> σ -> Option R} {S : Nat -> σ} (hs : ∀ i, i < n -> f i (S i) = f (i + 1) (S (i + 1))) : f 0 (S 0) = f n (S n) := by
 have : ∀ k, k <= n -> f 0 (S 0) = f k (S k) := by
  intro k
  induction k with
  | zero => intro _; rfl
  | succ k ih => intro h; rw [ih (by omega), hs k (by omega)]
 exact this n (Nat.le_refl _)
theorem zaf {R : Type} {n : Nat} {f : Nat -> Option R} {q : Nat -> Bool} {r e : Option R} (hs : ∀ i, i < n -> f i = cond (q i) r (f (i + 1))) (he : f n = e) : f 0 = cond ((List.range n).any q) r e := by
 have : ∀ k i, i + k = n -> f i = cond ((List.range' i k).any q) r e := by
  intro k
  induction k with
  | zero => intro i h; simp at h; subst h; simpa using he
  | succ k ih =>
   intro i h
   rw [hs i (by omega), ih (i + 1) (by omega), List.range'_succ, List.any_cons]
   cases q i <;> rfl
 have h := this n 0 (by omega)
 rwa [← List.range_eq_range'] at h
theorem zsY {n : Nat} {q : Nat -> Bool} : (List.range n).any q = true ↔ ∃ i, i < n /\ q i = true := by simp
theorem any_f {n : Nat} {q : Nat -> Bool} : (List.range n).any q = false ↔ ∀ i, i < n -> q i = false := by simp
theorem zlp {n : Nat} {q q' : Nat -> Bool} (h : ∀ i, i < n -> q i = q' i) : (List.range n).any q = (List.range n).any q' := by
 rw [Bool.eq_iff_iff, zsY, zsY]
 exact ⟨fun ⟨i, hi, hq⟩ => ⟨i, hi, by rw [← h i hi]; exact hq⟩, fun ⟨i, hi, hq⟩ => ⟨i, hi, by rw [h i hi]; exact hq⟩⟩
theorem zk {R : Type} [Inhabited R] {o : Option R} {r : R} (h : o = some r) : o.getD default = r /\ o.isSome = true := by subst h; exact ⟨rfl, rfl⟩
def B47 : Nat := 140737488351232
def I64 (n : Int) : Prop := -9223372036854775808 <= n /\ n < 9223372036854775808
structure zbK (c : Config) : Prop where
 frames : I64 c.frames
 kernel : I64 c.kernel
 room : I64 c.room
 cores : c.cores.length * 24 <= B47
 core : ∀ i, i < c.cores.length -> (zq c.cores i).length * 24 <= B47
 parts : c.partitions.length * 104 <= B47
 regions : ∀ i, i < c.partitions.length -> (za c.partitions i).regions.length * 32 <= B47
 ports : ∀ i, i < c.partitions.length -> (za c.partitions i).ports.length * 16 <= B47
 name : ∀ i, i < c.partitions.length -> (za c.partitions i).name.size <= maxLen
 chans : c.channels.length * 24 <= B47
 region : ∀ i k, i < c.partitions.length -> k < (za c.partitions i).regions.length -> I64 (zm (za c.partitions i).regions k).frame /\ I64 (zm (za c.partitions i).regions k).pages
theorem zhO {n : Int} (h : Fit (.v (.int .i64 n))) : I64 n := by
 cases h with
 | int _ _ h0 h1 =>
  simp [IntKind.min, IntKind.max, IntKind.signed, IntKind.bits] at h0 h1
  exact ⟨by omega, by omega⟩
theorem ze6 {t : Ty} {xs : List t.T} (h : Fit (.sl t xs)) : xs.length * t.by <= B47 /\ ∀ i j, i < xs.length -> j < t.sz -> Fit ((t.enc (nth xs i)).getD j .undef) := by
 cases h with
 | sl _ _ hl h => exact ⟨hl, h⟩
theorem zD6 {s : ByteArray} (h : Fit (.v (.string s))) : s.size <= maxLen := by
 cases h with
 | str _ h => exact h
theorem fitC {c : Config} (h : ∀ j, j < Ty.sz .sConfig -> Fit ((Ty.enc .sConfig c).getD j .undef)) : zbK c := by
 obtain ⟨k1, k2⟩ := ze6 (t := .sl .sWindow) (xs := c.cores) (h 4 (by decide))
 obtain ⟨k3, k4⟩ := ze6 (t := .sPartition) (xs := c.partitions) (h 5 (by decide))
 obtain ⟨k5, _⟩ := ze6 (t := .sChannel) (xs := c.channels) (h 6 (by decide))
 have part : ∀ i, i < c.partitions.length -> _ := fun i hi => ze6 (t := .sRegion) (xs := (za c.partitions i).regions) (k4 i 6 hi (by decide))
 refine ⟨zhO (h 0 (by decide)), zhO (h 2 (by decide)), zhO (h 3 (by decide)), k1, fun i hi => (ze6 (t := .sWindow) (xs := zq c.cores i) (k2 i 0 hi (by decide))).1, k3, fun i hi => (part i hi).1, fun i hi => (ze6 (t := .sPort) (xs := (za c.partitions i).ports) (k4 i 7 hi (by decide))).1, fun i hi => zD6 (k4 i 0 hi (by decide)), k5, fun i k hi hk => ?_⟩
 exact ⟨zhO ((part i hi).2 k 2 hk (by decide)), zhO ((part i hi).2 k 1 hk (by decide))⟩
theorem zjv (n l m : Int) : zal n l m = (decide (l <= n) && decide (n <= m)) := by
 refine (zk (r := (decide (l <= n) && decide (n <= m))) ?_).1
 unfold zjQ zi0
 by_cases h : l <= n <;> simp [h]
theorem ze7 (n l m : Int) : zW n l m = (decide (l <= n) && decide (n <= m)) := by
 refine (zk (r := (decide (l <= n) && decide (n <= m))) ?_).1
 unfold zjP ziU
 by_cases h : l <= n <;> simp [h]
theorem zbc {a b : Nat} (h : a <= b) : leB a b = true := by simpa only [leB, Nat.ble_eq] using h
theorem zAH (n b : Nat) (h : n * b <= B47) : (decide ((n : Int) = n) && decide (0 <= n) && leB ((n : Int).toNat * b) 140737488355328) = true := by
 unfold B47 at h
 rw [tnC, zbc (by omega)]
 simp
def zzZ (b : Int) : Bool := (decide (b < 97) || decide (b > 122)) && (decide (b < 48) || decide (b > 57)) && !(b == 45)
def ztQ (s : ByteArray) : Bool := (List.range s.size).any fun i => zzZ (zbW s i)
theorem zs1 {R : Type} (b : Int) (x y : R) : cond (decide (b < 97)) (cond (decide (b < 48)) (cond (!(b == 45)) x y) (cond (decide (b > 57)) (cond (!(b == 45)) x y) y)) (cond (decide (b > 122)) (cond (decide (b < 48)) (cond (!(b == 45)) x y) (cond (decide (b > 57)) (cond (!(b == 45)) x y) y)) y) = cond (zzZ b) x y := by
 unfold zzZ
 cases decide (b < 97) <;> cases decide (b > 122) <;> cases decide (b < 48) <;> cases decide (b > 57) <;> cases (b == 45) <;> rfl
theorem zKg {s : ByteArray} (hs : s.size < 4611686018427387904) : znb s (.l0 0) = some (!(ztQ s)) := by
 have h := zaf (n := s.size) (f := fun i => znb s (.l0 (i : Int))) (q := fun i => zzZ (zbW s i)) (r := some false) (e := some true) (fun i hi => by
  rw [zpK]
  simp only [zeU, zR hi, cnT, zh hi, tnC, zf i (by omega), id]
  exact zs1 _ _ _) (by rw [zpK]; simp only [zeU, zS (Nat.le_refl _), cnF, id])
 refine h.trans ?_
 unfold ztQ
 cases (List.range s.size).any _ <;> rfl
theorem zKf {s : ByteArray} (hs : s.size < 4611686018427387904) : znc s (.l0 0) = some (!(ztQ s)) := by
 have h := zaf (n := s.size) (f := fun i => znc s (.l0 (i : Int))) (q := fun i => zzZ (zbW s i)) (r := some false) (e := some true) (fun i hi => by
  rw [zpM]
  simp only [zeW, zR hi, cnT, zh hi, tnC, zf i (by omega), id]
  exact zs1 _ _ _) (by rw [zpM]; simp only [zeW, zS (Nat.le_refl _), cnF, id])
 refine h.trans ?_
 unfold ztQ
 cases (List.range s.size).any _ <;> rfl
noncomputable def zqy (s : ByteArray) : Bool := cond (decide (s.size = 0)) false (cond (decide (s.size > 16)) false (cond (decide (zbW s 0 < 97)) false (cond (decide (zbW s 0 > 122)) false (!(ztQ s)))))
theorem zFB (s : ByteArray) : zrf s = some (zqy s) := by
 unfold zrf zi8 zqy
 have e1 : (s.toList == (ByteArray.mk #[]).toList) = decide (s.size = 0) := by
  rw [Bool.eq_iff_iff, beq_iff_eq, decide_eq_true_eq, ByteArray.toList_eq, ByteArray.toList_eq]
  constructor
  . intro h
    have h2 : s.data.toList.length = 0 := congrArg List.length h
    rw [Array.length_toList] at h2
    exact h2
  . intro h
    have h2 : s.data.toList.length = 0 := by rw [Array.length_toList]; exact h
    exact List.eq_nil_of_length_eq_zero h2
 rw [e1]
 cases h0 : decide (s.size = 0) with
 | true => rfl
 | false =>
  simp only [cnF]
  have h0' : ¬ s.size = 0 := by simpa using h0
  have e2 : decide ((s.size : Int) > 16) = decide (s.size > 16) := by rw [Bool.eq_iff_iff, decide_eq_true_eq, decide_eq_true_eq]; omega
  rw [e2]
  cases h1 : decide (s.size > 16) with
  | true => rfl
  | false =>
   have h1' : ¬ s.size > 16 := by simpa using h1
   have e3 : zU 0 s.size = true := zh (i := 0) (by omega)
   simp only [cnF, e3, cnT, id]
   rw [zKg (by omega)]
   cases decide (zbW s 0 < 97) <;> cases decide (zbW s 0 > 122) <;> rfl
theorem zFA (s : ByteArray) : zrh s = some (zqy s) := by
 unfold zrh zjb zqy
 have e1 : decide ((s.size : Int) < 1) = decide (s.size = 0) := by rw [Bool.eq_iff_iff, decide_eq_true_eq, decide_eq_true_eq]; omega
 rw [e1]
 cases h0 : decide (s.size = 0) with
 | true => rfl
 | false =>
  simp only [cnF]
  have h0' : ¬ s.size = 0 := by simpa using h0
  have e2 : decide ((s.size : Int) > 16) = decide (s.size > 16) := by rw [Bool.eq_iff_iff, decide_eq_true_eq, decide_eq_true_eq]; omega
  rw [e2]
  cases h1 : decide (s.size > 16) with
  | true => rfl
  | false =>
   have h1' : ¬ s.size > 16 := by simpa using h1
   have e3 : zU 0 s.size = true := zh (i := 0) (by omega)
   simp only [cnF, e3, cnT, id]
   rw [zKf (by omega)]
   cases decide (zbW s 0 < 97) <;> cases decide (zbW s 0 > 122) <;> rfl
def za1 (x : AdmitFound) : Bool := ((x.e : Int) == fine.e) && ((((x.where_.first : Int) == fine.where_.first) && (((x.where_.second : Int) == fine.where_.second) && true)) && true)
theorem zoP (x : AdmitFound) : za1 x = true ↔ x = fine := by
 obtain ⟨e, f, s⟩ := x
 simp [za1, fine]
theorem zdB : za1 fine = true := (zoP _).2 rfl
theorem zlb {x : AdmitFound} (h : x.e ≠ 0) : za1 x = false := by
 cases hq : za1 x with
 | false => rfl
 | true => rw [(zoP x).1 hq] at h; exact absurd rfl h
def AnsF (o : Option AdmitFound) (b : Bool) : Prop := ∃ r, o = some r /\ (b = true -> r = fine) /\ (b = false -> r.e ≠ 0)
def zx0 (o : Option Int) (b : Bool) : Prop := ∃ e, o = some e /\ (e == 0) = b
theorem AnsF.fine {b : Bool} (h : b = true) : AnsF (some fine) b := ⟨_, rfl, fun _ => rfl, fun h' => by rw [h] at h'; cases h'⟩
theorem AnsF.err {r : AdmitFound} {b : Bool} (h : b = false) (hr : r.e ≠ 0) : AnsF (some r) b := ⟨_, rfl, fun h' => by (rw [h] at h'; cases h'), fun _ => hr⟩
theorem AnsF.err' {e : Int} {w : Where} {b : Bool} (h : b = false) (hr : e ≠ 0) : AnsF (some ⟨e, w⟩) b := .err h hr
theorem znZ (e : Int) (w : Where) : zp true e w = fine := rfl
theorem ziC (e : Int) (w : Where) : zp false e w = ⟨e, ⟨w.first, w.second⟩⟩ := rfl
theorem za8 {b : Bool} {e : Int} {w : Where} (he : e ≠ 0) : za1 (zp b e w) = b := by
 cases b
 . rw [ziC]; exact zlb he
 . rw [znZ]; exact zdB
theorem zDT {xs : List AdmitFound} {i : Nat} (h : i < xs.length) : zc9 xs i = xs[i] := by simp [zc9, List.getD, h]
theorem zAt {l : List AdmitFound} (hl : l.length < 4611686018427387904) : ∃ r, zhy l = some r /\ ((∀ x ∈ l, za1 x = true) -> r = fine) /\ ∀ x ∈ l, za1 x = false -> za1 r = false /\ r ∈ l := by
 have key : ∀ k i, i + k = l.length -> ∃ r, zqP l (.l0 (i : Int)) = some r /\ ((∀ x ∈ l.drop i, za1 x = true) -> r = fine) /\ ∀ x ∈ l.drop i, za1 x = false -> za1 r = false /\ r ∈ l := by
  intro k
  induction k with
  | zero =>
   intro i h
   refine ⟨fine, ?_, fun _ => rfl, fun x hx => ?_⟩
   . rw [zpH]
     simp only [zeR, zS (show l.length <= i by omega), cnF, id]
   . rw [List.drop_eq_nil_of_le (by omega)] at hx; cases hx
  | succ k ih =>
   intro i h
   have hi : i < l.length := by omega
   have hd : l.drop i = l[i] :: l.drop (i + 1) := List.drop_eq_getElem_cons hi
   rw [zpH]
   simp only [zeR, zR hi, cnT, zh hi, tnC, zf i (by omega), id]
   obtain ⟨r, h1, h2, h3⟩ := ih (i + 1) (by omega)
   show ∃ r, cond (!(za1 (zc9 l i))) _ _ = some r /\ _
   rw [zDT hi]
   cases hq : za1 l[i] with
   | true =>
    refine ⟨r, h1, fun h => h2 fun x hx => h x (by rw [hd]; exact List.mem_cons_of_mem _ hx), fun x hx hf => ?_⟩
    rw [hd] at hx
    rcases List.mem_cons.1 hx with rfl | hx
    . rw [hq] at hf; cases hf
    . exact h3 x hx hf
   | false =>
    refine ⟨l[i], rfl, fun h => ?_, fun x hx hf => ⟨hq, List.getElem_mem hi⟩⟩
    have := h l[i] (by rw [hd]; exact List.mem_cons_self)
    rw [hq] at this; cases this
 obtain ⟨r, h1, h2, h3⟩ := key l.length 0 (by omega)
 exact ⟨r, h1, by simpa using h2, by simpa using h3⟩
theorem zjt (bs : List (Bool × Int × Where)) (hl : bs.length < 4611686018427387904) (he : ∀ x ∈ bs, x.2.1 ≠ 0) : AnsF (zhy (bs.map fun x => zp x.1 x.2.1 x.2.2)) (bs.all (·.1)) := by
 obtain ⟨r, h1, h2, h3⟩ := zAt (l := bs.map fun x => zp x.1 x.2.1 x.2.2) (by simpa using hl)
 refine ⟨r, h1, fun h => h2 fun x hx => ?_, fun h => ?_⟩
 . obtain ⟨y, hy, rfl⟩ := List.mem_map.1 hx
   rw [za8 (he y hy)]
   exact List.all_eq_true.1 h y hy
 . obtain ⟨y, hy, hb⟩ : ∃ y ∈ bs, y.1 = false := by
    apply Classical.byContradiction
    intro hn
    have : bs.all (·.1) = true := List.all_eq_true.2 fun y hy => by
     cases hq : y.1 with
     | true => rfl
     | false => exact absurd ⟨y, hy, hq⟩ hn
    rw [this] at h; cases h
   obtain ⟨h4, h5⟩ := h3 _ (List.mem_map.2 ⟨y, hy, rfl⟩) (by rw [za8 (he y hy)]; exact hb)
   obtain ⟨z, hz, rfl⟩ := List.mem_map.1 h5
   rw [za8 (he z hz)] at h4
   rw [h4, ziC]
   exact he z hz
theorem zIL (b1 b2 : Bool) (e1 e2 : Int) (w1 w2 : Where) (h1 : e1 ≠ 0) (h2 : e2 ≠ 0) : AnsF (zhy [zp b1 e1 w1, zp b2 e2 w2]) (b1 && b2) := by
 have := zjt [(b1, e1, w1), (b2, e2, w2)] (by simp) (by simp [h1, h2])
 simpa using this
theorem zAs (b1 b2 b3 : Bool) (e1 e2 e3 : Int) (w1 w2 w3 : Where) (h1 : e1 ≠ 0) (h2 : e2 ≠ 0) (h3 : e3 ≠ 0) : AnsF (zhy [zp b1 e1 w1, zp b2 e2 w2, zp b3 e3 w3]) (b1 && (b2 && b3)) := by
 have := zjt [(b1, e1, w1), (b2, e2, w2), (b3, e3, w3)] (by simp) (by simp [h1, h2, h3])
 simpa using this
theorem zIM (b1 b2 b3 b4 : Bool) (e1 e2 e3 e4 : Int) (w1 w2 w3 w4 : Where) (h1 : e1 ≠ 0) (h2 : e2 ≠ 0) (h3 : e3 ≠ 0) (h4 : e4 ≠ 0) : AnsF (zhy [zp b1 e1 w1, zp b2 e2 w2, zp b3 e3 w3, zp b4 e4 w4]) (b1 && (b2 && (b3 && b4))) := by
 have := zjt [(b1, e1, w1), (b2, e2, w2), (b3, e3, w3), (b4, e4, w4)] (by simp) (by simp [h1, h2, h3, h4])
 simpa using this
noncomputable def P (c : Config) (p : Nat) : Partition := za c.partitions p
noncomputable def Rg (c : Config) (p k : Nat) : Region := zm (P c p).regions k
noncomputable def zf3 (c : Config) (p q : Nat) : Bool := ((P c q).name.toList == (P c p).name.toList)
noncomputable def zcx (c : Config) (p : Nat) : Bool := !((List.range p).any (zf3 c p)) && zqy (P c p).name
theorem zms {i n : Nat} (h : i <= n) : inS 0 (i : Int) n = true := inS_iff.2 ⟨by omega, by omega, by omega⟩
theorem zxm {c : Config} {p q : Nat} (hq : q < p) (hp : p <= c.partitions.length) : za ((c.partitions.take p).drop 0) q = P c q := by
 simp [za, P, List.getD, List.getElem?_take, hq]
theorem zFJ {c : Config} (hc : zbK c) {p : Nat} (hp : p < c.partitions.length) : zvz c p = some (zcx c p) := by
 have hlen := hc.parts
 unfold B47 at hlen
 have h := zaf (n := p) (f := fun i => zqO c p (.l0 (i : Int))) (q := zf3 c p) (r := some false) (e := some (zqy (P c p).name)) (fun i hi => by
  rw [zpF]
  simp only [zeP, zR hi, cnT, zh hp, zh (show i < c.partitions.length by omega), tnC, zf i (by omega), id]
  rfl) (by
  rw [zpF]
  obtain ⟨e1, e2⟩ := zk (zFB (P c p).name)
  have e2' : znF (P c p).name = true := e2
  have e1' : zt5 (P c p).name = zqy (P c p).name := e1
  simp only [zeP, zS (Nat.le_refl _), cnF, zh hp, cnT, tnC, id]
  show cond (znF (P c p).name) (some (zt5 (P c p).name)) none = _
  rw [e1', e2']; rfl)
 refine h.trans ?_
 unfold zcx
 cases (List.range p).any (zf3 c p) <;> simp
theorem zFI {c : Config} (hc : zbK c) {p : Nat} (hp : p < c.partitions.length) : zrb c p = some (zcx c p) := by
 have hlen := hc.parts
 unfold B47 at hlen
 have htl : ((c.partitions.take p).drop 0).length = p := by simp; omega
 have h := zaf (n := p) (f := fun i => zqQ c p (.l0 (i : Int))) (q := zf3 c p) (r := some false) (e := some (zqy (P c p).name)) (fun i hi => by
  rw [zpI]
  simp only [zeS, tnC, htl, zR hi, cnT, zh hp, zh hi, zf i (by omega), id, zxm hi (Nat.le_of_lt hp)]
  rfl) (by
  rw [zpI]
  obtain ⟨e1, e2⟩ := zk (zFA (P c p).name)
  have e2' : znG (P c p).name = true := e2
  have e1' : zt7 (P c p).name = zqy (P c p).name := e1
  simp only [zeS, tnC, htl, zS (Nat.le_refl _), cnF, zh hp, cnT, id]
  show cond (znG (P c p).name) (some (zt7 (P c p).name)) none = _
  rw [e1', e2']; rfl)
 unfold zrb zi5
 rw [zms (Nat.le_of_lt hp), cnT]
 refine h.trans ?_
 unfold zcx
 cases (List.range p).any (zf3 c p) <;> simp
noncomputable def zky (a m b o : Int) : Bool := zmX a m b o
noncomputable def zf0 (c : Config) (g : Region) : Bool := (decide (0 <= g.page) && decide (g.page <= 255)) && (decide (1 <= g.pages) && decide (g.pages <= i64.wrap (256 - g.page))) && decide (0 <= g.frame) && decide (g.pages <= i64.wrap (c.frames - g.frame)) && (decide (1 <= g.rights) && decide (g.rights <= 7))
noncomputable def ztU (c : Config) (p k i : Nat) : Bool := zky (Rg c p k).page (Rg c p k).pages (Rg c p i).page (Rg c p i).pages
noncomputable def zct (c : Config) (p k q i : Nat) : Bool := (decide (q < p) || decide (i < k)) && zky (Rg c p k).frame (Rg c p k).pages (Rg c q i).frame (Rg c q i).pages
noncomputable def zap (c : Config) (p : Nat) : Nat := (P c p).regions.length
noncomputable def zho (c : Config) (p k : Nat) : Bool := zf0 c (Rg c p k) && !((List.range k).any (ztU c p k)) && !((List.range (p + 1)).any fun q => (List.range (zap c q)).any (zct c p k q))
theorem zFV (c : Config) (g : Region) : zpv c g = zf0 c g := by
 refine (zk (r := zf0 c g) ?_).1
 unfold zjR zi9 zf0
 rw [zjv, zjv, zjv]
 cases decide (0 <= g.page) <;> cases decide (g.page <= 255) <;> cases decide (1 <= g.pages) <;> cases decide (g.pages <= i64.wrap (256 - g.page)) <;> cases decide (0 <= g.frame) <;> cases decide (g.pages <= i64.wrap (c.frames - g.frame)) <;> simp
theorem zBu {c : Config} (hc : zbK c) {p k : Nat} (hp : p < c.partitions.length) (hk : k < zap c p) : zx0 (zq5 c p k) (zho c p k) := by
 have hlen := hc.parts
 unfold B47 at hlen
 have hrl : ∀ q, q < c.partitions.length -> zap c q * 32 <= B47 := fun q hq => hc.regions q hq
 have hB : B47 = 140737488351232 := rfl
 have hk' : k < (za c.partitions p).regions.length := hk
 -- the frames of one partition
 have h8 : ∀ q, q <= p -> zbZ c p k (.l8 (q : Int) 0) = cond ((List.range (zap c q)).any (zct c p k q)) (some 411) (zbZ c p k (.l4 ((q + 1 : Nat) : Int))) := fun q hq => by
  have hqc : q < c.partitions.length := by omega
  have hql := hrl q hqc
  by_cases hqp : q = p
  . subst hqp
    have h := zaf (n := k) (f := fun i => zbZ c q k (.l8 (q : Int) (i : Int))) (q := fun i => zky (Rg c q k).frame (Rg c q k).pages (Rg c q i).frame (Rg c q i).pages) (r := some 411) (e := zbZ c q k (.l4 ((q + 1 : Nat) : Int))) (fun i hi => by
     rw [zb5]
     have hi' : i < (za c.partitions q).regions.length := by omega
     have e1 : decide ((i : Int) >= (k : Int)) = false := decide_eq_false (by omega)
     simp only [zbV, tnC, zh hqc, cnT, zR hi', zh hi', beq_self_eq_true, e1, cnF, zf i (by omega), id]
     rfl) (by
     rw [zb5]
     have e1 : decide ((k : Int) >= (k : Int)) = true := decide_eq_true (by omega)
     simp only [zbV, tnC, zh hqc, cnT, zR hk', beq_self_eq_true, e1, zf q (by omega), id])
    refine h.trans ?_
    congr 1
    rw [Bool.eq_iff_iff, zsY, zsY]
    constructor
    . rintro ⟨i, hi, hq⟩
      exact ⟨i, Nat.lt_trans hi hk, by simp only [zct, Bool.and_eq_true, Bool.or_eq_true, decide_eq_true_eq]; exact ⟨.inr hi, hq⟩⟩
    . rintro ⟨i, hi, hq⟩
      simp only [zct, Bool.and_eq_true, Bool.or_eq_true, decide_eq_true_eq] at hq
      exact ⟨i, by omega, hq.2⟩
  . have h := zaf (n := zap c q) (f := fun i => zbZ c p k (.l8 (q : Int) (i : Int))) (q := zct c p k q) (r := some 411) (e := zbZ c p k (.l4 ((q + 1 : Nat) : Int))) (fun i hi => by
     rw [zb5]
     have hi' : i < (za c.partitions q).regions.length := hi
     have e1 : ((q : Int) == (p : Int)) = false := by simp; omega
     simp only [zbV, tnC, zh hqc, cnT, zR hi', zh hi', e1, cnF, zf i (by omega), id]
     unfold zct
     rw [show decide (q < p) = true from decide_eq_true (by omega), Bool.true_or, Bool.true_and]
     rfl) (by
     rw [zb5]
     have hi' : decide ((zap c q : Int) < ((za c.partitions q).regions.length : Int)) = false := zS (Nat.le_refl _)
     simp only [zbV, tnC, zh hqc, cnT, hi', cnF, zf q (by omega), id])
    exact h
 have h4 := zaf (n := p + 1) (f := fun q => zbZ c p k (.l4 (q : Int))) (q := fun q => (List.range (zap c q)).any (zct c p k q)) (r := some 411) (e := some 0) (fun q hq => by
  rw [zb5]
  have e1 : decide ((q : Int) <= (p : Int)) = true := decide_eq_true (by omega)
  simp only [zbV, e1, cnT, id]
  exact h8 q (by omega)) (by
  rw [zb5]
  have e1 : decide (((p + 1 : Nat) : Int) <= (p : Int)) = false := decide_eq_false (by omega)
  simp only [zbV, e1, cnF, id])
 have hkl := hrl p hp
 have h0 := zaf (n := k) (f := fun i => zbZ c p k (.l0 (i : Int))) (q := ztU c p k) (r := some 410) (e := zbZ c p k (.l4 0)) (fun i hi => by
  rw [zb5]
  have hi' : i < (za c.partitions p).regions.length := by omega
  simp only [zbV, tnC, zR hi, zh hp, cnT, zh hi', zf i (by omega), id]
  rfl) (by
  rw [zb5]
  simp only [zbV, zS (Nat.le_refl _), cnF, id])
 unfold zq5 zi1
 simp only [tnC, zh hp, zh hk', cnT, id]
 show zx0 (cond (!(zpv c (Rg c p k))) (some 409) (zbZ c p k (.l0 0))) _
 rw [zFV]
 unfold zho
 cases zf0 c (Rg c p k) with
 | false => exact ⟨409, rfl, rfl⟩
 | true =>
  simp only [Bool.not_true, cnF, Bool.true_and]
  refine (show zx0 _ _ from ?_)
  rw [show zbZ c p k (.l0 0) = _ from h0, show zbZ c p k (.l4 0) = _ from h4]
  cases (List.range k).any (ztU c p k) with
  | true => exact ⟨410, rfl, rfl⟩
  | false =>
   simp only [cnF, Bool.not_false, Bool.true_and]
   cases (List.range (p + 1)).any fun q => (List.range (zap c q)).any (zct c p k q) with
   | true => exact ⟨411, rfl, rfl⟩
   | false => exact ⟨0, rfl, rfl⟩
theorem zFE (n : Int) : decide (n < 0) = !(decide (0 <= n)) := by
 by_cases h : 0 <= n
 . rw [decide_eq_false (by omega), decide_eq_true h]; rfl
 . rw [decide_eq_true (by omega), decide_eq_false h]; rfl
theorem zvd (a b : Int) : decide (a > b) = !(decide (a <= b)) := by
 by_cases h : a <= b
 . rw [decide_eq_false (by omega), decide_eq_true h]; rfl
 . rw [decide_eq_true (by omega), decide_eq_false h]; rfl
theorem zMb {c : Config} {p k i : Nat} (hi : i < k) : zm ((((P c p).regions).take k).drop 0) i = Rg c p i := by
 simp [zm, Rg, List.getD, List.getElem?_take, hi]
theorem zFU {c : Config} {p k : Nat} (hk : k <= zap c p) : ((((P c p).regions).take k).drop 0).length = k := by
 unfold zap at hk
 simp; omega
theorem zBt {c : Config} (hc : zbK c) {p k : Nat} (hp : p < c.partitions.length) (hk : k < zap c p) : AnsF (zrc c p k) (zho c p k) := by
 have hlen := hc.parts
 unfold B47 at hlen
 have hrl : ∀ q, q < c.partitions.length -> zap c q * 32 <= B47 := fun q hq => hc.regions q hq
 have hB : B47 = 140737488351232 := rfl
 have hk' : k < (za c.partitions p).regions.length := hk
 have hw : i64.wrap ((p : Int) + 1) = ((p + 1 : Nat) : Int) := zf p (by omega)
 have hpl : ((c.partitions.take (p + 1)).drop 0).length = p + 1 := by simp; omega
 let e3 : AdmitFound := ⟨411, ⟨p, k⟩⟩
 have h8 : ∀ q, q <= p -> zcz c p k (.l8 (q : Int) (q : Int) (P c q).regions ((P c q).regions.length) 0) = cond ((List.range (zap c q)).any (zct c p k q)) (some e3) (zcz c p k (.l4 ((q + 1 : Nat) : Int))) := fun q hq => by
  have hql := hrl q (by omega)
  exact zaf (n := zap c q) (f := fun i => zcz c p k (.l8 (q : Int) (q : Int) (P c q).regions ((P c q).regions.length) (i : Int))) (q := zct c p k q) (r := some e3) (e := zcz c p k (.l4 ((q + 1 : Nat) : Int))) (fun i hi => by
   rw [zdp]
   have hi' : i < (P c q).regions.length := hi
   have e1 : decide ((q : Int) < (p : Int)) = decide (q < p) := by rw [Bool.eq_iff_iff, decide_eq_true_eq, decide_eq_true_eq]; omega
   have e2 : decide ((i : Int) < (k : Int)) = decide (i < k) := by rw [Bool.eq_iff_iff, decide_eq_true_eq, decide_eq_true_eq]; omega
   simp only [zcp, tnC, cnT, zR hi', zh hi', e1, e2, zf i (by omega), id]
   unfold zct
   show cond (decide (q < p)) (cond (zky (Rg c p k).frame (Rg c p k).pages (Rg c q i).frame (Rg c q i).pages) (some e3) _) (cond (decide (i < k)) (cond (zky (Rg c p k).frame (Rg c p k).pages (Rg c q i).frame (Rg c q i).pages) (some e3) _) _) = _
   cases decide (q < p) <;> cases decide (i < k) <;> cases zky (Rg c p k).frame (Rg c p k).pages (Rg c q i).frame (Rg c q i).pages <;> rfl) (by
   rw [zdp]
   have hi' : decide ((zap c q : Int) < ((P c q).regions.length : Int)) = false := zS (Nat.le_refl _)
   simp only [zcp, hi', cnF, zf q (by omega), id])
 have h4 := zaf (n := p + 1) (f := fun q => zcz c p k (.l4 (q : Int))) (q := fun q => (List.range (zap c q)).any (zct c p k q)) (r := some e3) (e := some fine) (fun q hq => by
  rw [zdp]
  simp only [zcp, hw, tnC, hpl, zR hq, zh hq, cnT, zxm hq (show p + 1 <= c.partitions.length by omega), id]
  exact h8 q (by omega)) (by
  rw [zdp]
  simp only [zcp, hw, tnC, hpl, zS (Nat.le_refl _), cnF, id])
 have hkl := hrl p hp
 let e2 : AdmitFound := ⟨410, ⟨p, k⟩⟩
 have hrlen : (((za c.partitions p).regions.take k).drop 0).length = k := zFU (c := c) (p := p) (Nat.le_of_lt hk)
 have h0 := zaf (n := k) (f := fun i => zcz c p k (.l0 (i : Int))) (q := ztU c p k) (r := some e2) (e := zcz c p k (.l4 0)) (fun i hi => by
  rw [zdp]
  have ha : zm (((za c.partitions p).regions.take k).drop 0) i = Rg c p i := zMb hi
  simp only [zcp, tnC, hrlen, zR hi, zh hi, cnT, ha, zf i (by omega), id]
  rfl) (by
  rw [zdp]
  simp only [zcp, tnC, hrlen, zS (Nat.le_refl _), cnF, hw, zms (show p + 1 <= c.partitions.length by omega), cnT, id])
 unfold zrc zi6
 simp only [tnC, zh hp, zh hk', cnT, ze7, zFE, zvd, zms (Nat.le_of_lt hk'), id]
 unfold zho zf0
 show AnsF (cond (!(decide (0 <= (Rg c p k).page) && decide ((Rg c p k).page <= 255))) _ (cond (!(decide (1 <= (Rg c p k).pages) && decide ((Rg c p k).pages <= i64.wrap (256 - (Rg c p k).page)))) _ (cond (!(decide (0 <= (Rg c p k).frame))) _ (cond (!(decide ((Rg c p k).pages <= i64.wrap (c.frames - (Rg c p k).frame)))) _ (cond (!(decide (1 <= (Rg c p k).rights) && decide ((Rg c p k).rights <= 7))) _ (zcz c p k (.l0 0))))))) _
 cases decide (0 <= (Rg c p k).page) && decide ((Rg c p k).page <= 255) with
 | false => exact .err' rfl (by decide)
 | true =>
 cases decide (1 <= (Rg c p k).pages) && decide ((Rg c p k).pages <= i64.wrap (256 - (Rg c p k).page)) with
 | false => exact .err' rfl (by decide)
 | true =>
 cases decide (0 <= (Rg c p k).frame) with
 | false => exact .err' rfl (by decide)
 | true =>
 cases decide ((Rg c p k).pages <= i64.wrap (c.frames - (Rg c p k).frame)) with
 | false => exact .err' rfl (by decide)
 | true =>
 cases decide (1 <= (Rg c p k).rights) && decide ((Rg c p k).rights <= 7) with
 | false => exact .err' rfl (by decide)
 | true =>
  simp only [Bool.not_true, cnF, Bool.true_and, Bool.and_true]
  rw [show zcz c p k (.l0 0) = _ from h0, show zcz c p k (.l4 0) = _ from h4]
  cases (List.range k).any (ztU c p k) with
  | true => exact .err' rfl (by decide)
  | false =>
   simp only [cnF, Bool.not_false, Bool.true_and]
   cases (List.range (p + 1)).any fun q => (List.range (zap c q)).any (zct c p k q) with
   | true => exact .err' rfl (by decide)
   | false => exact .fine rfl
noncomputable def zhc (x : Partition) (i : Nat) : Bool := (decide ((zm x.regions i).page <= bop .quo .i64 x.entry 16) && decide (bop .quo .i64 x.entry 16 <= i64.wrap (i64.wrap ((zm x.regions i).page + (zm x.regions i).pages) - 1))) && !((bop .and .i64 (zm x.regions i).rights 4) == 0)
noncomputable def ze3 (x : Partition) : Bool := (decide (0 <= x.entry) && decide (x.entry <= 4095)) && (List.range x.regions.length).any (zhc x)
theorem zlx {R : Type} (a b : Bool) (x y : R) : cond a (cond b x y) y = cond (a && b) x y := by cases a <;> cases b <;> rfl
theorem zD3 {x : Partition} (hx : x.regions.length * 32 <= B47) : zq6 x = some (ze3 x) := by
 unfold B47 at hx
 have h := zaf (n := x.regions.length) (f := fun i => zm9 x (.l0 (i : Int))) (q := zhc x) (r := some true) (e := some false) (fun i hi => by
  rw [zpG]
  simp only [zeQ, tnC, zR hi, zh hi, cnT, zjv, zf i (by omega), id, zlx]
  rfl) (by
  rw [zpG]
  simp only [zeQ, zS (Nat.le_refl _), cnF, id])
 unfold zq6 zi2 ze3
 rw [zjv]
 cases decide (0 <= x.entry) && decide (x.entry <= 4095) with
 | false => rfl
 | true =>
  refine Eq.trans (show _ = zm9 x (.l0 0) from rfl) (Eq.trans h ?_)
  cases (List.range x.regions.length).any (zhc x) <;> rfl
theorem zMf {x : Partition} (hx : x.regions.length * 32 <= B47) : zvC x = some ((List.range x.regions.length).any (zhc x)) := by
 unfold B47 at hx
 have h := zaf (n := x.regions.length) (f := fun i => zna x (.l0 (i : Int))) (q := zhc x) (r := some true) (e := some false) (fun i hi => by
  rw [zpJ]
  simp only [zeT, tnC, zR hi, zh hi, cnT, ze7, zf i (by omega), id, zlx]
  rfl) (by
  rw [zpJ]
  simp only [zeT, zS (Nat.le_refl _), cnF, id])
 refine Eq.trans (show _ = zna x (.l0 0) from rfl) (Eq.trans h ?_)
 cases (List.range x.regions.length).any (zhc x) <;> rfl
noncomputable def zL (c : Config) (p : Nat) : Nat := (P c p).ports.length
noncomputable def Pt (c : Config) (p k : Nat) : Port := zaI (P c p).ports k
noncomputable def zfp (c : Config) (p k : Nat) : Bool := !(decide (0 <= (Pt c p k).channel) && decide ((Pt c p k).channel <= i64.wrap ((c.channels.length : Int) - 1)))
noncomputable def zoT (c : Config) (p : Nat) : Bool := zcx c p && (((decide (0 <= (P c p).action) && decide ((P c p).action <= 2)) && (decide (0 <= (P c p).restarts) && decide ((P c p).restarts <= 15))) && (((decide (0 <= (P c p).inputs) && decide ((P c p).inputs <= 16)) && (decide (0 <= (P c p).outputs) && decide ((P c p).outputs <= 16))) && (decide (1 <= zap c p) && decide (zap c p <= 8))))
noncomputable def zdT (c : Config) (p : Nat) : Bool := zoT c p && !((List.range (zap c p)).any fun k => !(zho c p k)) && ze3 (P c p) && decide (zL c p <= 8) && !((List.range (zL c p)).any (zfp c p))
theorem zqn {o : Option Int} {b : Bool} (h : zx0 o b) : o.isSome = true /\ (o.getD default == 0) = b := by
 obtain ⟨e, rfl, h⟩ := h
 exact ⟨rfl, h⟩
theorem zdQ {o : Option AdmitFound} {b : Bool} (h : AnsF o b) : o.isSome = true /\ za1 (o.getD default) = b /\ (b = true -> o.getD default = fine) /\ (b = false -> (o.getD default).e ≠ 0) := by
 obtain ⟨r, rfl, h1, h2⟩ := h
 refine ⟨rfl, ?_, h1, h2⟩
 cases b with
 | true => rw [show (some r).getD default = r from rfl, h1 rfl]; exact zdB
 | false => exact zlb (h2 rfl)
def zca (o : Option (Int × Where)) (b : Bool) : Prop := ∃ r, o = some r /\ (r.1 == 0) = b
theorem ztW {c : Config} (hc : zbK c) {p : Nat} (hp : p < c.partitions.length) : zca (zw2 c p) (zdT c p) := by
 have hrl : zap c p * 32 <= B47 := hc.regions p hp
 have hql : zL c p * 16 <= B47 := hc.ports p hp
 have hB : B47 = 140737488351232 := rfl
 obtain ⟨n1, n2⟩ := zk (zFJ hc hp)
 have n1' : zww c p = zcx c p := n1
 have n2' : zrL c p = true := n2
 -- ports
 have l6 : ∀ m i, i + m = zL c p -> zca (zpQ c p (.l6 (i : Int))) (!((List.range' i m).any (zfp c p))) := by
  intro m
  induction m with
  | zero =>
   intro i h
   rw [ziu]
   have hi' : decide ((i : Int) < ((za c.partitions p).ports.length : Int)) = false := zS (by unfold zL P at h; omega)
   simp only [zfI, tnC, hi', cnF, id]
   exact ⟨_, rfl, rfl⟩
  | succ m ih =>
   intro i h
   rw [ziu]
   have hi : i < (za c.partitions p).ports.length := by unfold zL P at h; omega
   simp only [zfI, tnC, zR hi, zh hi, cnT, zjv, zf i (by omega), id]
   rw [List.range'_succ, List.any_cons]
   show zca (cond (zfp c p i) _ _) _
   cases zfp c p i with
   | true => exact ⟨_, rfl, rfl⟩
   | false => simpa using ih (i + 1) (by omega)
 have l6' := l6 (zL c p) 0 (by omega)
 rw [← List.range_eq_range'] at l6'
 obtain ⟨x1, x2⟩ := zk (zD3 (x := P c p) hrl)
 have x1' : zwx (za c.partitions p) = ze3 (P c p) := x1
 have x2' : zrN (za c.partitions p) = true := x2
 have l2 : ∀ m i, i + m = zap c p -> zca (zpQ c p (.l2 (i : Int))) (!((List.range' i m).any fun k => !(zho c p k)) && ze3 (P c p) && decide (zL c p <= 8) && !((List.range (zL c p)).any (zfp c p))) := by
  intro m
  induction m with
  | zero =>
   intro i h
   rw [ziu]
   have hi' : decide ((i : Int) < ((za c.partitions p).regions.length : Int)) = false := zS (by unfold zap P at h; omega)
   simp only [zfI, tnC, hi', cnF, x1', x2', cnT, zvd, id]
   cases ze3 (P c p) with
   | false => exact ⟨_, rfl, by simp⟩
   | true =>
    have e1 : decide (((za c.partitions p).ports.length : Int) <= 8) = decide (zL c p <= 8) := by rw [Bool.eq_iff_iff, decide_eq_true_eq, decide_eq_true_eq]; unfold zL P; omega
    rw [e1]
    cases decide (zL c p <= 8) with
    | false => exact ⟨_, rfl, by simp⟩
    | true => simpa using l6'
  | succ m ih =>
   intro i h
   have hi : i < zap c p := by omega
   rw [ziu]
   have hi' : i < (za c.partitions p).regions.length := hi
   obtain ⟨r1, r2⟩ := zqn (zBu hc hp hi)
   have r1' : zrM c p i = true := r1
   have r2' : ((zpq c p i : Int) == 0) = zho c p i := r2
   simp only [zfI, tnC, zR hi', cnT, r1', r2', zf i (by omega), id]
   rw [List.range'_succ, List.any_cons]
   cases hq : zho c p i with
   | false =>
    refine ⟨_, rfl, ?_⟩
    show ((zpq c p i : Int) == 0) = _
    rw [r2', hq]; simp
   | true => simpa using ih (i + 1) (by omega)
 have l2' := l2 (zap c p) 0 (by omega)
 rw [← List.range_eq_range'] at l2'
 unfold zw2 zoL
 simp only [tnC, zh hp, cnT, n1', n2', zjv, id]
 have e8 : (decide ((1 : Int) <= ((za c.partitions p).regions.length : Int)) && decide (((za c.partitions p).regions.length : Int) <= 8)) = (decide (1 <= zap c p) && decide (zap c p <= 8)) := by
  rw [Bool.eq_iff_iff]; simp only [Bool.and_eq_true, decide_eq_true_eq]; unfold zap P; omega
 rw [e8]
 unfold zdT zoT
 show zca (cond (!(zcx c p)) _ (cond (!(decide (0 <= (P c p).action) && decide ((P c p).action <= 2))) _ (cond (!(decide (0 <= (P c p).restarts) && decide ((P c p).restarts <= 15))) _ (cond (!(decide (0 <= (P c p).inputs) && decide ((P c p).inputs <= 16))) _ (cond (!(decide (0 <= (P c p).outputs) && decide ((P c p).outputs <= 16))) _ (cond (!(decide (1 <= zap c p) && decide (zap c p <= 8))) _ (zpQ c p (.l2 0)))))))) _
 cases zcx c p with
 | false => exact ⟨_, rfl, rfl⟩
 | true =>
 cases decide (0 <= (P c p).action) && decide ((P c p).action <= 2) with
 | false => exact ⟨_, rfl, rfl⟩
 | true =>
 cases decide (0 <= (P c p).restarts) && decide ((P c p).restarts <= 15) with
 | false => exact ⟨_, rfl, rfl⟩
 | true =>
 cases decide (0 <= (P c p).inputs) && decide ((P c p).inputs <= 16) with
 | false => exact ⟨_, rfl, rfl⟩
 | true =>
 cases decide (0 <= (P c p).outputs) && decide ((P c p).outputs <= 16) with
 | false => exact ⟨_, rfl, rfl⟩
 | true =>
 cases decide (1 <= zap c p) && decide (zap c p <= 8) with
 | false => exact ⟨_, rfl, rfl⟩
 | true => simpa using l2'
theorem zoj {α : Type} (b : Bool) (x : α) : cond b x x = x := by cases b <;> rfl
theorem zcs (x : AdmitFound) : (((x.e : Int) == fine.e) && ((((x.where_.first : Int) == fine.where_.first) && (((x.where_.second : Int) == fine.where_.second) && true)) && true)) = za1 x := rfl
theorem zjp (x : AdmitFound) : (⟨x.e, ⟨x.where_.first, x.where_.second⟩⟩ : AdmitFound) = x := rfl
noncomputable def X0 (c : Config) (p : Nat) (x : AdmitFound) (i : Nat) : Option AdmitFound := zm7 c p (.l0 (i : Int) x.e x.where_.first x.where_.second)
noncomputable def X4 (c : Config) (p : Nat) (x : AdmitFound) (i : Nat) : Option AdmitFound := zm7 c p (.l4 (i : Int) x.e x.where_.first x.where_.second)
theorem zzN {c : Config} {p i : Nat} {x : AdmitFound} (hx : x.e ≠ 0) : X4 c p x i = some x := by
 unfold X4
 rw [zdn]
 simp only [zcn, tnC, zcs, zlb hx, cnF, zoj, id, zjp]
theorem zzM {c : Config} {p i : Nat} {x : AdmitFound} (hx : x.e ≠ 0) : X0 c p x i = some x := by
 unfold X0
 rw [zdn]
 simp only [zcn, tnC, zcs, zlb hx, cnF, Bool.not_false, cnT, zoj, id, zjp]
theorem zDR {c : Config} (hc : zbK c) {p : Nat} (hp : p < c.partitions.length) : ∀ m i, i + m = zL c p -> AnsF (X4 c p fine i) (!((List.range' i m).any (zfp c p))) := by
 have hql : zL c p * 16 <= B47 := hc.ports p hp
 have hB : B47 = 140737488351232 := rfl
 intro m
 induction m with
 | zero =>
  intro i h
  unfold X4
  rw [zdn]
  have hi' : decide ((i : Int) < ((za c.partitions p).ports.length : Int)) = false := zS (by unfold zL P at h; omega)
  simp only [zcn, tnC, hi', cnF, id, zjp]
  exact .fine rfl
 | succ m ih =>
  intro i h
  have hi : i < (za c.partitions p).ports.length := by unfold zL P at h; omega
  have key : X4 c p fine i = X4 c p (zp (!(zfp c p i)) 414 (zam p i)) (i + 1) := by
   unfold X4
   rw [zdn]
   simp only [zcn, tnC, zR hi, zcs, zdB, cnT, zh hi, ze7, zf i (by omega), id]
   unfold zfp
   rw [Bool.not_not]
   rfl
  rw [key, List.range'_succ, List.any_cons]
  cases zfp c p i with
  | true =>
   rw [Bool.not_true, ziC, zzN (show (414 : Int) ≠ 0 by decide)]
   exact .err' rfl (by decide)
  | false => simpa [znZ] using ih (i + 1) (by omega)
noncomputable def zqf (c : Config) (p : Nat) : Bool := ze3 (P c p) && decide (zL c p <= 8) && !((List.range (zL c p)).any (zfp c p))
theorem zIu {c : Config} (hc : zbK c) {p : Nat} (hp : p < c.partitions.length) : AnsF (X0 c p fine (zap c p)) (zqf c p) := by
 have hrl : zap c p * 32 <= B47 := hc.regions p hp
 have h4 := zDR hc hp (zL c p) 0 (by omega)
 rw [← List.range_eq_range'] at h4
 obtain ⟨x1, x2⟩ := zk (zMf (x := P c p) hrl)
 have x1' : zwz (za c.partitions p) = (List.range (P c p).regions.length).any (zhc (P c p)) := x1
 have x2' : znD (za c.partitions p) = true := x2
 have e1 : decide (((za c.partitions p).ports.length : Int) <= 8) = decide (zL c p <= 8) := by rw [Bool.eq_iff_iff, decide_eq_true_eq, decide_eq_true_eq]; unfold zL P; omega
 unfold X0
 rw [zdn]
 have hi' : decide ((zap c p : Int) < ((za c.partitions p).regions.length : Int)) = false := zS (Nat.le_refl _)
 simp only [zcn, tnC, hi', cnF, zcs, zdB, Bool.not_true, x1', x2', cnT, ze7, e1, id]
 have go : ∀ b : Bool, AnsF (cond (zaV [zp b 412 (zA p), zp (decide (zL c p <= 8)) 413 (zA p)]) (X4 c p (zaN [zp b 412 (zA p), zp (decide (zL c p <= 8)) 413 (zA p)]) 0) none) (b && decide (zL c p <= 8) && !((List.range (zL c p)).any (zfp c p))) := fun b => by
  obtain ⟨k1, k2, k3, k4⟩ := zdQ (zIL b (decide (zL c p <= 8)) 412 413 (zA p) (zA p) (by decide) (by decide))
  have k1' : zaV [zp b 412 (zA p), zp (decide (zL c p <= 8)) 413 (zA p)] = true := k1
  rw [k1', cnT]
  cases hb : b && decide (zL c p <= 8) with
  | false =>
   have := k4 hb
   exact Eq.mpr (congrArg (fun o => AnsF o _) (zzN this)) (.err rfl this)
  | true =>
   have : zaN [zp b 412 (zA p), zp (decide (zL c p <= 8)) 413 (zA p)] = fine := k3 hb
   rw [this]
   simpa using h4
 unfold zqf ze3
 show AnsF (cond (decide (0 <= (P c p).entry) && decide ((P c p).entry <= 4095)) _ _) _
 cases decide (0 <= (P c p).entry) && decide ((P c p).entry <= 4095) with
 | true => exact go _
 | false => exact go false
theorem zDQ {c : Config} (hc : zbK c) {p : Nat} (hp : p < c.partitions.length) : ∀ m i, i + m = zap c p -> AnsF (X0 c p fine i) (!((List.range' i m).any fun k => !(zho c p k)) && zqf c p) := by
 have hrl : zap c p * 32 <= B47 := hc.regions p hp
 have hB : B47 = 140737488351232 := rfl
 intro m
 induction m with
 | zero =>
  intro i h
  obtain rfl : i = zap c p := by omega
  simpa using zIu hc hp
 | succ m ih =>
  intro i h
  have hi0 : i < zap c p := by omega
  have hi : i < (za c.partitions p).regions.length := hi0
  obtain ⟨k1, k2, k3, k4⟩ := zdQ (zBt hc hp hi0)
  have k1' : zrR c p i = true := k1
  have key : X0 c p fine i = X0 c p (zmZ c p i) (i + 1) := by
   unfold X0
   rw [zdn]
   simp only [zcn, tnC, zR hi, zcs, zdB, cnT, k1', zf i (by omega), id]
  rw [key, List.range'_succ, List.any_cons]
  cases hq : zho c p i with
  | false =>
   have := k4 hq
   exact Eq.mpr (congrArg (fun o => AnsF o _) (zzM this)) (.err (by simp) this)
  | true =>
   have : zmZ c p i = fine := k3 hq
   rw [this]
   simpa using ih (i + 1) (by omega)
theorem ztV {c : Config} (hc : zbK c) {p : Nat} (hp : p < c.partitions.length) : AnsF (zqY c p) (zdT c p) := by
 have h0 := zDQ hc hp (zap c p) 0 (by omega)
 rw [← List.range_eq_range'] at h0
 obtain ⟨n1, n2⟩ := zk (zFI hc hp)
 have n1' : zcj c p = zcx c p := n1
 have n2' : zrQ c p = true := n2
 have e8 : (decide ((1 : Int) <= ((za c.partitions p).regions.length : Int)) && decide (((za c.partitions p).regions.length : Int) <= 8)) = (decide (1 <= zap c p) && decide (zap c p <= 8)) := by
  rw [Bool.eq_iff_iff]; simp only [Bool.and_eq_true, decide_eq_true_eq]; unfold zap P; omega
 have go : ∀ b1 b2 b3 b4 : Bool, AnsF (cond (zaV [zp b1 405 (zA p), zp b2 406 (zA p), zp b3 407 (zA p), zp b4 408 (zA p)]) (X0 c p (zaN [zp b1 405 (zA p), zp b2 406 (zA p), zp b3 407 (zA p), zp b4 408 (zA p)]) 0) none) ((b1 && (b2 && (b3 && b4))) && (!((List.range (zap c p)).any fun k => !(zho c p k)) && zqf c p)) := fun b1 b2 b3 b4 => by
  obtain ⟨k1, k2, k3, k4⟩ := zdQ (zIM b1 b2 b3 b4 405 406 407 408 (zA p) (zA p) (zA p) (zA p) (by decide) (by decide) (by decide) (by decide))
  generalize hL : [zp b1 405 (zA p), zp b2 406 (zA p), zp b3 407 (zA p), zp b4 408 (zA p)] = L at k1 k2 k3 k4 ⊢
  have k1' : zaV L = true := k1
  rw [k1', cnT]
  cases hb : b1 && (b2 && (b3 && b4)) with
  | false =>
   have := k4 hb
   rw [show X0 c p (zaN L) 0 = some (zaN L) from zzM this]
   exact .err rfl this
  | true =>
   have : zaN L = fine := k3 hb
   rw [this]
   simpa using h0
 unfold zqY ziV
 simp only [tnC, zh hp, cnT, n1', n2', ze7, e8, id]
 have hfin : zdT c p = (zoT c p && (!((List.range (zap c p)).any fun k => !(zho c p k)) && zqf c p)) := by
  unfold zdT zqf
  cases zoT c p <;> cases (List.range (zap c p)).any (fun k => !(zho c p k)) <;> cases ze3 (P c p) <;> cases decide (zL c p <= 8) <;> rfl
 rw [hfin]
 unfold zoT
 show AnsF (cond (decide (0 <= (P c p).action) && decide ((P c p).action <= 2)) (cond (decide (0 <= (P c p).inputs) && decide ((P c p).inputs <= 16)) _ _) (cond (decide (0 <= (P c p).inputs) && decide ((P c p).inputs <= 16)) _ _)) _
 cases decide (0 <= (P c p).action) && decide ((P c p).action <= 2) <;> cases decide (0 <= (P c p).inputs) && decide ((P c p).inputs <= 16)
 . exact go (zcx c p) false false _
 . exact go (zcx c p) false _ _
 . exact go (zcx c p) _ false _
 . exact go (zcx c p) _ _ _
theorem zcJ {R : Type} (A : Option R -> Bool -> Prop) {n : Nat} {f : Nat -> Option R} {q : Nat -> Bool} {e : Bool} (hs : ∀ i, i < n -> (q i = true -> A (f i) false) /\ (q i = false -> f i = f (i + 1))) (he : (∀ i, i < n -> q i = false) -> A (f n) e) : A (f 0) (!((List.range n).any q) && e) := by
 have : ∀ k i, i + k = n -> (∀ j, j < i -> q j = false) -> A (f i) (!((List.range' i k).any q) && e) := by
  intro k
  induction k with
  | zero => intro i h hq; simp at h; subst h; simpa using he hq
  | succ k ih =>
   intro i h hq
   obtain ⟨h1, h2⟩ := hs i (by omega)
   rw [List.range'_succ, List.any_cons]
   cases hqi : q i with
   | true => simpa using h1 hqi
   | false =>
    rw [h2 hqi]
    simpa using ih (i + 1) (by omega) fun j hj => by
     by_cases hji : j = i
     . subst hji; exact hqi
     . exact hq j (by omega)
 have h := this n 0 (by omega) (fun j hj => by omega)
 rwa [← List.range_eq_range'] at h
def tot (g : Nat -> Nat) : Nat -> Nat
 | 0 => 0
 | n + 1 => tot g n + g n
def cnt (q : Nat -> Bool) : Nat -> Nat := tot fun k => cond (q k) 1 0
theorem znY {g : Nat -> Nat} {b : Nat} : ∀ {n : Nat}, (∀ i, i < n -> g i <= b) -> tot g n <= n * b
 | 0, _ => by simp [tot]
 | n + 1, h => by
  have := znY (n := n) fun i hi => h i (by omega)
  have := h n (by omega)
  simp only [tot, Nat.add_mul, Nat.one_mul]; omega
theorem zbM (q : Nat -> Bool) (n : Nat) : cnt q n <= n := by
 have := znY (g := fun k => cond (q k) 1 0) (b := 1) (n := n) fun i _ => by cases q i <;> simp
 unfold cnt; simpa using this
theorem zcM (q : Nat -> Bool) (n : Nat) : cnt q (n + 1) = cnt q n + cond (q n) 1 0 := rfl
noncomputable def zbp (c : Config) (h : Int) (q k : Nat) : Bool := ((Pt c q k).channel == h) && (Pt c q k).source
noncomputable def zax (c : Config) (h : Int) (q k : Nat) : Bool := ((Pt c q k).channel == h) && !(Pt c q k).source
noncomputable def zgi (c : Config) (h : Int) (n : Nat) : Nat := tot (fun q => cnt (zbp c h q) (zL c q)) n
noncomputable def zel (c : Config) (h : Int) (n : Nat) : Nat := tot (fun q => cnt (zax c h q) (zL c q)) n
structure Few (c : Config) : Prop where
 parts : c.partitions.length <= 8
 ports : ∀ q, q < c.partitions.length -> zL c q <= 8
theorem zlh {c : Config} (hw : Few c) (h : Int) {n : Nat} (hn : n <= c.partitions.length) : zgi c h n <= 64 := by
 have := znY (g := fun q => cnt (zbp c h q) (zL c q)) (b := 8) (n := n) fun i hi => Nat.le_trans (zbM _ _) (hw.ports i (by omega))
 have := hw.parts
 unfold zgi; omega
theorem zla {c : Config} (hw : Few c) (h : Int) {n : Nat} (hn : n <= c.partitions.length) : zel c h n <= 64 := by
 have := znY (g := fun q => cnt (zax c h q) (zL c q)) (b := 8) (n := n) fun i hi => Nat.le_trans (zbM _ _) (hw.ports i (by omega))
 have := hw.parts
 unfold zel; omega
theorem zIJ {c : Config} (hw : Few c) (h : Int) : zvA c h = some ((zgi c h c.partitions.length : Int), (zel c h c.partitions.length : Int)) := by
 have h8 := hw.parts
 have inner : ∀ q, q < c.partitions.length -> ∀ s d : Nat, s <= 64 -> d <= 64 -> zb0 c h (.l4 (s : Int) (d : Int) (q : Int) 0) = zb0 c h (.l0 ((s + cnt (zbp c h q) (zL c q) : Nat) : Int) ((d + cnt (zax c h q) (zL c q) : Nat) : Int) ((q + 1 : Nat) : Int)) := fun q hq s d hs hd => by
  have hp8 := hw.ports q hq
  have := zz (n := zL c q) (f := fun k (x : Nat × Nat) => zb0 c h (.l4 (x.1 : Int) (x.2 : Int) (q : Int) (k : Int))) (S := fun k => (s + cnt (zbp c h q) k, d + cnt (zax c h q) k)) (fun k hk => by
   have hk' : k < (za c.partitions q).ports.length := hk
   have l1 := zbM (zbp c h q) k
   have l2 := zbM (zax c h q) k
   dsimp only
   rw [zdo]
   simp only [zco, tnC, zh hq, cnT, zR hk', zh hk', zf (s + cnt (zbp c h q) k) (by omega), id]
   have e17 : ∀ a b : Int, zb0 c h (.l17 a b (q : Int) (k : Int)) = zb0 c h (.l4 a b (q : Int) ((k + 1 : Nat) : Int)) := fun a b => by
    rw [zdo]
    simp only [zco, zf k (by omega), id]
   have e25 : ∀ a : Int, zb0 c h (.l25 a ((d + cnt (zax c h q) k : Nat) : Int) (q : Int) (k : Int) (Pt c q k).channel (Pt c q k).source) = zb0 c h (.l4 a ((d + cnt (zax c h q) (k + 1) : Nat) : Int) (q : Int) ((k + 1 : Nat) : Int)) := fun a => by
    rw [zdo]
    simp only [zco, zf (d + cnt (zax c h q) k) (by omega), e17, id]
    rw [zcM]
    unfold zax
    cases (Pt c q k).channel == h <;> cases (Pt c q k).source <;> rfl
   show cond ((Pt c q k).channel == h) (cond (Pt c q k).source (zb0 c h (.l25 _ _ _ _ (Pt c q k).channel (Pt c q k).source)) (zb0 c h (.l25 _ _ _ _ (Pt c q k).channel (Pt c q k).source))) (zb0 c h (.l25 _ _ _ _ (Pt c q k).channel (Pt c q k).source)) = _
   rw [e25, e25]
   rw [zcM (zbp c h q)]
   unfold zbp
   cases (Pt c q k).channel == h <;> cases (Pt c q k).source <;> rfl)
  refine Eq.trans this ?_
  dsimp only
  rw [zdo]
  have hi' : decide ((zL c q : Int) < ((za c.partitions q).ports.length : Int)) = false := zS (Nat.le_refl _)
  simp only [zco, tnC, zh hq, cnT, hi', cnF, zf q (by omega), id]
 have outer := zz (n := c.partitions.length) (f := fun q (x : Nat × Nat) => zb0 c h (.l0 (x.1 : Int) (x.2 : Int) (q : Int))) (S := fun q => (zgi c h q, zel c h q)) (fun q hq => by
  dsimp only
  rw [zdo]
  simp only [zco, zR hq, cnT, id]
  exact inner q hq _ _ (zlh hw h (by omega)) (zla hw h (by omega)))
 refine Eq.trans (show _ = zb0 c h (.l0 0 0 0) from rfl) (Eq.trans outer ?_)
 dsimp only
 rw [zdo]
 simp only [zco, zS (Nat.le_refl _), cnF, id]
theorem zII {c : Config} (hw : Few c) (h : Int) : zvD c h = some ((zgi c h c.partitions.length : Int), (zel c h c.partitions.length : Int)) := by
 have h8 := hw.parts
 have inner : ∀ q, q < c.partitions.length -> ∀ s d : Nat, s <= 64 -> d <= 64 -> zd6 c h (.l4 (s : Int) (d : Int) (q : Int) (P c q).ports ((P c q).ports.length) 0) = zd6 c h (.l0 ((s + cnt (zbp c h q) (zL c q) : Nat) : Int) ((d + cnt (zax c h q) (zL c q) : Nat) : Int) ((q + 1 : Nat) : Int)) := fun q hq s d hs hd => by
  have hp8 := hw.ports q hq
  have := zz (n := zL c q) (f := fun k (x : Nat × Nat) => zd6 c h (.l4 (x.1 : Int) (x.2 : Int) (q : Int) (P c q).ports ((P c q).ports.length) (k : Int))) (S := fun k => (s + cnt (zbp c h q) k, d + cnt (zax c h q) k)) (fun k hk => by
   have hk' : k < (P c q).ports.length := hk
   have l1 := zbM (zbp c h q) k
   have l2 := zbM (zax c h q) k
   dsimp only
   rw [zez]
   simp only [zcU, tnC, cnT, zR hk', zh hk', zf (s + cnt (zbp c h q) k) (by omega), zf (d + cnt (zax c h q) k) (by omega), id]
   have e23 : ∀ a b : Int, zd6 c h (.l23 a b (q : Int) (P c q).ports ((P c q).ports.length) (k : Int)) = zd6 c h (.l4 a b (q : Int) (P c q).ports ((P c q).ports.length) ((k + 1 : Nat) : Int)) := fun a b => by
    rw [zez]
    simp only [zcU, zf k (by omega), id]
   rw [e23, e23, e23, zcM, zcM]
   unfold zbp zax
   show cond (!((Pt c q k).channel == h)) _ (cond (Pt c q k).source _ _) = _
   cases (Pt c q k).channel == h <;> cases (Pt c q k).source <;> rfl)
  refine Eq.trans this ?_
  dsimp only
  rw [zez]
  have hi' : decide ((zL c q : Int) < ((P c q).ports.length : Int)) = false := zS (Nat.le_refl _)
  simp only [zcU, hi', cnF, zf q (by omega), id]
 have outer := zz (n := c.partitions.length) (f := fun q (x : Nat × Nat) => zd6 c h (.l0 (x.1 : Int) (x.2 : Int) (q : Int))) (S := fun q => (zgi c h q, zel c h q)) (fun q hq => by
  dsimp only
  rw [zez]
  simp only [zcU, zR hq, zh hq, cnT, tnC, id]
  exact inner q hq _ _ (zlh hw h (by omega)) (zla hw h (by omega)))
 refine Eq.trans (show _ = zd6 c h (.l0 0 0 0) from rfl) (Eq.trans outer ?_)
 dsimp only
 rw [zez]
 simp only [zcU, zS (Nat.le_refl _), cnF, id]
noncomputable def Ch (c : Config) (h : Nat) : Channel := zo c.channels h
noncomputable def zfn (c : Config) (h : Nat) : Bool :=
 (((decide (1 <= (Ch c h).kind) && decide ((Ch c h).kind <= 2)) && (decide (1 <= (Ch c h).words) && decide ((Ch c h).words <= 16))) && cond ((Ch c h).kind == 2) (decide (1 <= (Ch c h).depth) && decide ((Ch c h).depth <= 8)) ((Ch c h).depth == 0)) &&
   (((zgi c h c.partitions.length : Int) == 1) && (decide ((1 : Int) <= (zel c h c.partitions.length : Int)) && decide ((zel c h c.partitions.length : Int) <= cond ((Ch c h).kind == 2) 1 4)))
theorem zyE {c : Config} (hw : Few c) {h : Nat} (hh : h < c.channels.length) : zx0 (zw3 c h) (zfn c h) := by
 obtain ⟨e1, e2⟩ := zk (zIJ hw (h : Int))
 have e1' : zaG c (h : Int) = _ := e1
 have e2' : zdN c (h : Int) = true := e2
 unfold zw3 ztu
 have hch : zo c.channels h = Ch c h := rfl
 simp only [zh hh, cnT, e1', e2', zjv, id, tnC, hch]
 unfold zfn
 generalize (Ch c h).kind = kd
 generalize (Ch c h).depth = dp
 generalize hs : (zgi c h c.partitions.length : Int) = s
 generalize hd : (zel c h c.partitions.length : Int) = d
 generalize (decide (1 <= (Ch c h).words) && decide ((Ch c h).words <= 16)) = wd
 by_cases k2 : kd = 2
 . subst k2
   have d1 : (decide (1 <= d) && decide (d <= 1)) = (d == 1) := by rw [Bool.eq_iff_iff]; simp; omega
   simp only [beq_self_eq_true, cnT, cnF, Bool.not_true, d1]
   cases wd <;> cases decide (1 <= dp) && decide (dp <= 8) <;> cases s == 1 <;> cases d == 1 <;> exact ⟨_, rfl, rfl⟩
 . have k2' : (kd == 2) = false := by simpa using k2
   by_cases k1 : kd = 1
   . subst k1
     simp only [k2', cnT, cnF, Bool.not_false, beq_self_eq_true, Bool.not_true]
     cases wd <;> cases dp == 0 <;> cases s == 1 <;> cases decide (1 <= d) && decide (d <= 4) <;> exact ⟨_, rfl, rfl⟩
   . have k1' : (kd == 1) = false := by simpa using k1
     have k12 : (decide (1 <= kd) && decide (kd <= 2)) = false := by
      rw [Bool.and_eq_false_iff, decide_eq_false_iff_not, decide_eq_false_iff_not]; omega
     simp only [k2', k1', k12, cnT, Bool.not_false, Bool.false_and]
     exact ⟨_, rfl, rfl⟩
theorem zyD {c : Config} (hw : Few c) {h : Nat} (hh : h < c.channels.length) : AnsF (zq0 c h) (zfn c h) := by
 obtain ⟨e1, e2⟩ := zk (zII hw (h : Int))
 have e1' : zps c (h : Int) = _ := e1
 have e2' : zrS c (h : Int) = true := e2
 have hf : ∀ b1 b2 b3 : Bool, AnsF (cond (zaV [zp b1 415 (zA h), zp b2 416 (zA h), zp b3 417 (zA h)]) (some (zaN [zp b1 415 (zA h), zp b2 416 (zA h), zp b3 417 (zA h)])) none) (b1 && (b2 && b3)) := fun b1 b2 b3 => by
  have hf := zAs b1 b2 b3 415 416 417 (zA h) (zA h) (zA h) (by decide) (by decide) (by decide)
  obtain ⟨k1, k2, k3, k4⟩ := zdQ hf
  have k1' : zaV [zp b1 415 (zA h), zp b2 416 (zA h), zp b3 417 (zA h)] = true := k1
  rw [k1', cnT]
  exact ⟨_, rfl, k3, k4⟩
 have l11 : ∀ (b : Bool) (m : Int), AnsF (zjJ c h (.l11 b m)) (((decide (1 <= (Ch c h).kind) && decide ((Ch c h).kind <= 2)) && (decide (1 <= (Ch c h).words) && decide ((Ch c h).words <= 16)) && b) && (((zgi c h c.partitions.length : Int) == 1) && (decide ((1 : Int) <= (zel c h c.partitions.length : Int)) && decide ((zel c h c.partitions.length : Int) <= m)))) := fun b m => by
  rw [zzm]
  simp only [zfA, e1', e2', cnT, ze7, id, tnC]
  show AnsF (cond (decide (1 <= (Ch c h).kind) && decide ((Ch c h).kind <= 2)) (cond (decide (1 <= (Ch c h).words) && decide ((Ch c h).words <= 16)) _ _) _) _
  cases decide (1 <= (Ch c h).kind) && decide ((Ch c h).kind <= 2) <;> cases decide (1 <= (Ch c h).words) && decide ((Ch c h).words <= 16)
  . exact hf false _ _
  . exact hf false _ _
  . exact hf false _ _
  . exact hf b _ _
 unfold zq0 ziW
 simp only [zh hh, cnT, ze7, id, tnC]
 unfold zfn
 show AnsF (cond ((Ch c h).kind == 2) (zjJ c h (.l11 (decide (1 <= (Ch c h).depth) && decide ((Ch c h).depth <= 8)) 1)) (zjJ c h (.l11 ((Ch c h).depth == 0) 4))) _
 cases (Ch c h).kind == 2 with
 | true => exact l11 _ _
 | false => exact l11 _ _
noncomputable def zbE (c : Config) (i : Nat) : Nat := (zq c.cores i).length
noncomputable def Win (c : Config) (i n : Nat) : Window := zaZ (zq c.cores i) n
noncomputable def znQ (c : Config) (p : Int) (i n : Nat) : Bool := !(p == (-1)) && ((Win c i n).partition == p)
noncomputable def zhC (c : Config) (k : Nat) (p : Int) : Bool := (List.range k).any fun i => (List.range (zbE c i)).any (znQ c p i)
theorem zmU (b : Bool) : cond b (some true) (some false) = some b := by cases b <;> rfl
theorem zGt {c : Config} (hc : zbK c) {k : Nat} (hk : k <= c.cores.length) (p : Int) : zvB c k p = some (zhC c k p) := by
 have hB : B47 = 140737488351232 := rfl
 have hcl := hc.cores
 have inner : ∀ i, i < k -> zfh c k p (.l4 (i : Int) 0) = cond ((List.range (zbE c i)).any (znQ c p i)) (some true) (zfh c k p (.l0 ((i + 1 : Nat) : Int))) := fun i hi => by
  have hic : i < c.cores.length := by omega
  have hwl : zbE c i * 24 <= B47 := hc.core i hic
  exact zaf (n := zbE c i) (f := fun n => zfh c k p (.l4 (i : Int) (n : Int))) (q := znQ c p i) (r := some true) (e := zfh c k p (.l0 ((i + 1 : Nat) : Int))) (fun n hn => by
   have hn' : n < (zq c.cores i).length := hn
   rw [zgG]
   simp only [zdv, tnC, zh hic, cnT, zR hn', zh hn', zf n (by omega), id, zlx]
   rfl) (by
   rw [zgG]
   have hn' : decide ((zbE c i : Int) < ((zq c.cores i).length : Int)) = false := zS (Nat.le_refl _)
   simp only [zdv, tnC, zh hic, cnT, hn', cnF, zf i (by omega), id])
 have outer := zaf (n := k) (f := fun i => zfh c k p (.l0 (i : Int))) (q := fun i => (List.range (zbE c i)).any (znQ c p i)) (r := some true) (e := some false) (fun i hi => by
  rw [zgG]
  simp only [zdv, zR hi, cnT, id]
  exact inner i hi) (by
  rw [zgG]
  simp only [zdv, zS (Nat.le_refl _), cnF, id])
 exact Eq.trans (show _ = zfh c k p (.l0 0) from rfl) (Eq.trans outer (zmU _))
noncomputable def zgP (c : Config) (p : Int) (i n : Nat) : Bool := decide (p >= 0) && ((Win c i n).partition == p)
theorem zMB {c : Config} {k i : Nat} (hi : i < k) : zq ((c.cores.take k).drop 0) i = zq c.cores i := by
 simp [zq, List.getD, List.getElem?_take, hi]
theorem zGs {c : Config} (hc : zbK c) {k : Nat} (hk : k <= c.cores.length) (p : Int) : zrd c k p = some ((List.range k).any fun i => (List.range (zbE c i)).any (zgP c p i)) := by
 have hB : B47 = 140737488351232 := rfl
 have hcl := hc.cores
 have htl : ((c.cores.take k).drop 0).length = k := by simp; omega
 have inner : ∀ i, i < k -> zf9 c k p (.l4 (i : Int) (zq c.cores i) ((zq c.cores i).length) 0) = cond ((List.range (zbE c i)).any (zgP c p i)) (some true) (zf9 c k p (.l0 ((i + 1 : Nat) : Int))) := fun i hi => by
  have hic : i < c.cores.length := by omega
  have hwl : zbE c i * 24 <= B47 := hc.core i hic
  exact zaf (n := zbE c i) (f := fun n => zf9 c k p (.l4 (i : Int) (zq c.cores i) ((zq c.cores i).length) (n : Int))) (q := zgP c p i) (r := some true) (e := zf9 c k p (.l0 ((i + 1 : Nat) : Int))) (fun n hn => by
   have hn' : n < (zq c.cores i).length := hn
   rw [zgH]
   simp only [zdw, tnC, cnT, zR hn', zh hn', zf n (by omega), id, zlx]
   rfl) (by
   rw [zgH]
   have hn' : decide ((zbE c i : Int) < ((zq c.cores i).length : Int)) = false := zS (Nat.le_refl _)
   simp only [zdw, hn', cnF, zf i (by omega), id])
 have outer := zaf (n := k) (f := fun i => zf9 c k p (.l0 (i : Int))) (q := fun i => (List.range (zbE c i)).any (zgP c p i)) (r := some true) (e := some false) (fun i hi => by
  rw [zgH]
  simp only [zdw, tnC, htl, zR hi, zh hi, cnT, zMB hi, id]
  exact inner i hi) (by
  rw [zgH]
  simp only [zdw, tnC, htl, zS (Nat.le_refl _), cnF, id])
 unfold zrd zi7
 rw [zms hk, cnT]
 exact Eq.trans outer (zmU _)
noncomputable def sW (c : Config) (k : Nat) : Nat -> Int
 | 0 => 0
 | n + 1 => i64.wrap (sW c k n + i64.wrap ((Win c k n).usable + (Win c k n).slack))
noncomputable def w1 (c : Config) (k n : Nat) : Bool := decide ((-1) <= (Win c k n).partition) && decide ((Win c k n).partition <= i64.wrap ((c.partitions.length : Int) - 1))
noncomputable def w2 (c : Config) (k n : Nat) : Bool := decide (1 <= (Win c k n).usable) && decide ((Win c k n).usable <= 16384)
noncomputable def w3 (c : Config) (k n : Nat) : Bool := decide (82 <= (Win c k n).slack) && decide ((Win c k n).slack <= 16384)
noncomputable def zCR (c : Config) (k n : Nat) : Bool := !(w1 c k n && (w2 c k n && (w3 c k n && !(zhC c k (Win c k n).partition))))
noncomputable def zgW (c : Config) (k : Nat) : Bool := (decide (1 <= zbE c k) && decide (zbE c k <= 16)) && (!((List.range (zbE c k)).any (zCR c k)) && (sW c k (zbE c k) == c.major))
theorem zxY {c : Config} {k : Nat} : (decide ((1 : Int) <= ((zq c.cores k).length : Int)) && decide (((zq c.cores k).length : Int) <= 16)) = (decide (1 <= zbE c k) && decide (zbE c k <= 16)) := by
 rw [Bool.eq_iff_iff]; simp only [Bool.and_eq_true, decide_eq_true_eq]; unfold zbE; omega
theorem zIF {c : Config} (hc : zbK c) {k : Nat} (hk : k < c.cores.length) : zca (zqT c k) (zgW c k) := by
 have hB : B47 = 140737488351232 := rfl
 have hwl : zbE c k * 24 <= B47 := hc.core k hk
 have hl := zcJ zca (n := zbE c k) (f := fun n => zqM c k (.l0 (sW c k n) (n : Int))) (q := zCR c k) (e := sW c k (zbE c k) == c.major) (fun n hn => by
  have hn' : n < (zq c.cores k).length := hn
  have hW : zaZ (zq c.cores k) n = Win c k n := rfl
  have h1 : (decide ((-1) <= (Win c k n).partition) && decide ((Win c k n).partition <= i64.wrap ((c.partitions.length : Int) - 1))) = w1 c k n := rfl
  have h2 : (decide (1 <= (Win c k n).usable) && decide ((Win c k n).usable <= 16384)) = w2 c k n := rfl
  have h3 : (decide (82 <= (Win c k n).slack) && decide ((Win c k n).slack <= 16384)) = w3 c k n := rfl
  have h4 : i64.wrap (sW c k n + i64.wrap ((Win c k n).usable + (Win c k n).slack)) = sW c k (n + 1) := rfl
  obtain ⟨s1, s2⟩ := zk (zGt hc (Nat.le_of_lt hk) (Win c k n).partition)
  have s1' : zwy c k (Win c k n).partition = zhC c k (Win c k n).partition := s1
  have s2' : zrO c k (Win c k n).partition = true := s2
  rw [zpC]
  simp only [zeM, tnC, zh hk, cnT, zR hn', zh hn', zjv, hW, h1, h2, h3, h4, s1', s2', zf n (by omega), id]
  unfold zCR
  cases w1 c k n <;> cases w2 c k n <;> cases w3 c k n <;> cases zhC c k (Win c k n).partition <;> first
   | exact ⟨fun _ => ⟨_, rfl, rfl⟩, fun h => by cases h⟩
   | exact ⟨fun h => by (cases h), fun _ => rfl⟩) (fun _ => by
  rw [zpC]
  have hn' : decide ((zbE c k : Int) < ((zq c.cores k).length : Int)) = false := zS (Nat.le_refl _)
  simp only [zeM, tnC, zh hk, cnT, hn', cnF, id]
  cases sW c k (zbE c k) == c.major <;> exact ⟨_, rfl, rfl⟩)
 unfold zqT ziO
 simp only [tnC, zh hk, cnT, zjv, zxY, id]
 unfold zgW
 cases decide (1 <= zbE c k) && decide (zbE c k <= 16) with
 | false => exact ⟨_, rfl, rfl⟩
 | true => simpa [show sW c k 0 = 0 from rfl] using hl
theorem zIE {c : Config} (hc : zbK c) {k : Nat} (hk : k < c.cores.length) : AnsF (zq2 c k) (zgW c k) := by
 have hB : B47 = 140737488351232 := rfl
 have hwl : zbE c k * 24 <= B47 := hc.core k hk
 have hl := zcJ AnsF (n := zbE c k) (f := fun n => zqN c k (.l0 (sW c k n) (n : Int))) (q := zCR c k) (e := sW c k (zbE c k) == c.major) (fun n hn => by
  have hn' : n < (zq c.cores k).length := hn
  have hW : zaZ (zq c.cores k) n = Win c k n := rfl
  have h1 : (decide ((-1) <= (Win c k n).partition) && decide ((Win c k n).partition <= i64.wrap ((c.partitions.length : Int) - 1))) = w1 c k n := rfl
  have h2 : (decide (1 <= (Win c k n).usable) && decide ((Win c k n).usable <= 16384)) = w2 c k n := rfl
  have h3 : (decide (82 <= (Win c k n).slack) && decide ((Win c k n).slack <= 16384)) = w3 c k n := rfl
  have h4 : i64.wrap (sW c k n + i64.wrap ((Win c k n).usable + (Win c k n).slack)) = sW c k (n + 1) := rfl
  obtain ⟨s1, s2⟩ := zk (zGs hc (Nat.le_of_lt hk) (Win c k n).partition)
  have s1' : zwA c k (Win c k n).partition = _ := s1
  have s2' : znE c k (Win c k n).partition = true := s2
  rw [zpE]
  simp only [zeO, tnC, cnT, zR hn', zh hn', ze7, hW, h1, h2, h3, h4, s1', s2', zf n (by omega), id, zcs]
  generalize hsp : ((List.range k).any fun i => (List.range (zbE c i)).any (zgP c (Win c k n).partition i)) = sa
  have hgo : ∀ b2 b3 b4 : Bool, ∀ X : Option AdmitFound, ((!(b2 && (b3 && b4))) = true -> AnsF (cond (zaV [zp b2 419 (zam k n), zp b3 420 (zam k n), zp b4 422 (zam k n)]) (cond (!(za1 (zaN [zp b2 419 (zam k n), zp b3 420 (zam k n), zp b4 422 (zam k n)]))) (some (zaN [zp b2 419 (zam k n), zp b3 420 (zam k n), zp b4 422 (zam k n)])) X) none) false) /\ ((!(b2 && (b3 && b4))) = false -> (cond (zaV [zp b2 419 (zam k n), zp b3 420 (zam k n), zp b4 422 (zam k n)]) (cond (!(za1 (zaN [zp b2 419 (zam k n), zp b3 420 (zam k n), zp b4 422 (zam k n)]))) (some (zaN [zp b2 419 (zam k n), zp b3 420 (zam k n), zp b4 422 (zam k n)])) X) none) = X) := fun b2 b3 b4 X => by
   obtain ⟨k1, k2, k3, k4⟩ := zdQ (zAs b2 b3 b4 419 420 422 (zam k n) (zam k n) (zam k n) (by decide) (by decide) (by decide))
   generalize [zp b2 419 (zam k n), zp b3 420 (zam k n), zp b4 422 (zam k n)] = L at k1 k2 k3 k4 ⊢
   have k1' : zaV L = true := k1
   have k2' : za1 (zaN L) = (b2 && (b3 && b4)) := k2
   rw [k1', k2', cnT]
   cases hb : b2 && (b3 && b4) with
   | false => exact ⟨fun _ => .err rfl (k4 hb), fun h => by cases h⟩
   | true => exact ⟨fun h => by (cases h), fun _ => rfl⟩
  have hsplit : w1 c k n = true -> sa = zhC c k (Win c k n).partition := fun h1 => by
   simp only [w1, Bool.and_eq_true, decide_eq_true_eq] at h1
   rw [← hsp]
   unfold zhC
   refine zlp fun i _ => zlp fun j _ => ?_
   unfold zgP znQ
   congr 1
   rw [Bool.eq_iff_iff]; simp; omega
  unfold zCR
  cases hw1 : w1 c k n with
  | true =>
   rw [hsplit hw1]
   exact hgo (w2 c k n) (w3 c k n) (!(zhC c k (Win c k n).partition)) _
  | false =>
   refine ⟨fun _ => (hgo false (w3 c k n) (!sa) _).1 rfl, fun h => by cases h⟩) (fun _ => by
  rw [zpE]
  have hn' : decide ((zbE c k : Int) < ((zq c.cores k).length : Int)) = false := zS (Nat.le_refl _)
  simp only [zeO, tnC, hn', cnF, id]
  cases sW c k (zbE c k) == c.major with
  | true => rw [znZ]; exact .fine rfl
  | false => rw [ziC]; exact .err' rfl (by decide))
 unfold zq2 ziX
 simp only [tnC, zh hk, cnT, ze7, zxY, id]
 unfold zgW
 cases decide (1 <= zbE c k) && decide (zbE c k <= 16) with
 | false => exact .err' rfl (by decide)
 | true => simpa [show sW c k 0 = 0 from rfl] using hl
noncomputable def zbC (c : Config) : Bool := (decide (1 <= c.frames) && decide (c.frames <= 1024)) && ((decide (1 <= c.major) && decide (c.major <= 16384)) && ((decide (1 <= c.cores.length) && decide (c.cores.length <= 4)) && ((decide (1 <= c.partitions.length) && decide (c.partitions.length <= 8)) && decide (c.channels.length <= 16))))
noncomputable def zcY (c : Config) : Bool := !((List.range c.partitions.length).any fun p => !(zdT c p))
noncomputable def zcd (c : Config) : Bool := !((List.range c.channels.length).any fun h => !(zfn c h))
noncomputable def zbN (c : Config) : Bool := !((List.range c.cores.length).any fun k => !(zgW c k))
noncomputable def zk2 (c : Config) : Bool := zbC c && (zcY c && (zcd c && zbN c))
theorem zjz {n : Nat} {q : Nat -> Bool} (h : (!((List.range n).any fun i => !(q i))) = true) : ∀ i, i < n -> q i = true := fun i hi => by
 have h' : ((List.range n).any fun i => !(q i)) = false := by simpa using h
 have := any_f.1 h' i hi
 simpa using this
theorem zu6 {c : Config} (h1 : zbC c = true) (h2 : ∀ p, p < c.partitions.length -> zdT c p = true) : Few c := by
 simp only [zbC, Bool.and_eq_true, decide_eq_true_eq] at h1
 refine ⟨h1.2.2.2.1.2, fun q hq => ?_⟩
 have := h2 q hq
 simp only [zdT, Bool.and_eq_true, decide_eq_true_eq] at this
 exact this.1.2
theorem zvV {o : Option (Int × Where)} {b : Bool} (h : zca o b) : o.isSome = true /\ ((o.getD default).1 == 0) = b := by
 obtain ⟨r, rfl, h⟩ := h
 exact ⟨rfl, h⟩
theorem zqz (n a b : Nat) : (decide ((a : Int) <= (n : Int)) && decide ((n : Int) <= (b : Int))) = (decide (a <= n) && decide (n <= b)) := by
 rw [Bool.eq_iff_iff]; simp only [Bool.and_eq_true, decide_eq_true_eq]; omega
theorem zxX (c : Config) : (zvt c == 0) = zbC c := by
 have : zx0 (znC c) (zbC c) := by
  unfold znC zoK zbC
  have e1 := zqz c.cores.length 1 4
  have e2 := zqz c.partitions.length 1 8
  have e3 : decide ((c.channels.length : Int) > 16) = !(decide (c.channels.length <= 16)) := by rw [zvd]; congr 1; rw [Bool.eq_iff_iff, decide_eq_true_eq, decide_eq_true_eq]; omega
  simp only [zjv, id]
  rw [show (decide ((1 : Int) <= (c.cores.length : Int)) && decide ((c.cores.length : Int) <= 4)) = _ from e1, show (decide ((1 : Int) <= (c.partitions.length : Int)) && decide ((c.partitions.length : Int) <= 8)) = _ from e2, e3]
  cases decide (1 <= c.frames) && decide (c.frames <= 1024) <;> cases decide (1 <= c.major) && decide (c.major <= 16384) <;> cases decide (1 <= c.cores.length) && decide (c.cores.length <= 4) <;> cases decide (1 <= c.partitions.length) && decide (c.partitions.length <= 8) <;> cases decide (c.channels.length <= 16) <;> exact ⟨_, rfl, rfl⟩
 exact (zqn this).2
theorem zD2 {c : Config} (hc : zbK c) {kb : Bool} (hk : zk2 c = true -> znl c = some kb) : zca (zur c) (zk2 c && kb) := by
 have hB : B47 = 140737488351232 := rfl
 have hpl := hc.parts
 have hcl := hc.cores
 have hhl := hc.chans
 unfold zur zoA
 rw [zxX]
 unfold zk2
 cases hw : zbC c with
 | false =>
  refine ⟨_, rfl, ?_⟩
  show (zvt c == 0) = _
  rw [zxX, hw]; rfl
 | true =>
 have h8 : zbC c = true -> zcY c = true -> zcd c = true -> zca (zip c (.l8 0)) (zbN c && kb) := fun hw hp hh => by
  refine zcJ zca (n := c.cores.length) (f := fun k => zip c (.l8 (k : Int))) (q := fun k => !(zgW c k)) (e := kb) (fun k hkk => ?_) (fun hq => ?_)
  . obtain ⟨k1, k2⟩ := zvV (zIF hc hkk)
    have k1' : zrD c k = true := k1
    have k2' : ((zmV c k).1 == 0) = zgW c k := k2
    rw [zeC]
    simp only [zef, zR hkk, cnT, k1', k2', zf k (by omega), id]
    cases hb : zgW c k with
    | true => exact ⟨fun h => by (cases h), fun _ => rfl⟩
    | false => exact ⟨fun _ => ⟨_, rfl, by show ((zmV c k).1 == 0) = _; rw [k2', hb]⟩, fun h => by cases h⟩
  . have hco : zbN c = true := by
     unfold zbN
     rw [any_f.2 hq]; rfl
    obtain ⟨a1, a2⟩ := zk (hk (by unfold zk2; rw [hw, hp, hh, hco]; rfl))
    have a1' : zwt c = kb := a1
    have a2' : zrE c = true := a2
    rw [zeC]
    simp only [zef, zS (Nat.le_refl _), cnF, a1', a2', cnT, id]
    cases kb <;> exact ⟨_, rfl, rfl⟩
 have h4 : zbC c = true -> zcY c = true -> zca (zip c (.l4 0)) (zcd c && (zbN c && kb)) := fun hw hp => by
  have hfew := zu6 hw (zjz hp)
  refine zcJ zca (n := c.channels.length) (f := fun k => zip c (.l4 (k : Int))) (q := fun k => !(zfn c k)) (e := zbN c && kb) (fun k hkk => ?_) (fun hq => ?_)
  . obtain ⟨k1, k2⟩ := zqn (zyE hfew hkk)
    have k1' : zxk c k = true := k1
    have k2' : ((zzj c k) == 0) = zfn c k := k2
    rw [zeC]
    simp only [zef, zR hkk, cnT, k1', k2', zf k (by omega), id]
    cases hb : zfn c k with
    | true => exact ⟨fun h => by (cases h), fun _ => rfl⟩
    | false => exact ⟨fun _ => ⟨_, rfl, by show ((zzj c k) == 0) = _; rw [k2', hb]⟩, fun h => by cases h⟩
  . have hco : zcd c = true := by
     unfold zcd
     rw [any_f.2 hq]; rfl
    rw [zeC]
    simp only [zef, zS (Nat.le_refl _), cnF, id]
    exact h8 hw hp hco
 have h0 : zca (zip c (.l0 0)) (zcY c && (zcd c && (zbN c && kb))) := by
  refine zcJ zca (n := c.partitions.length) (f := fun k => zip c (.l0 (k : Int))) (q := fun k => !(zdT c k)) (e := zcd c && (zbN c && kb)) (fun k hkk => ?_) (fun hq => ?_)
  . obtain ⟨k1, k2⟩ := zvV (ztW hc hkk)
    have k1' : zxj c k = true := k1
    have k2' : ((zvu c k).1 == 0) = zdT c k := k2
    rw [zeC]
    simp only [zef, zR hkk, cnT, k1', k2', zf k (by omega), id]
    cases hb : zdT c k with
    | true => exact ⟨fun h => by (cases h), fun _ => rfl⟩
    | false => exact ⟨fun _ => ⟨_, rfl, by show ((zvu c k).1 == 0) = _; rw [k2', hb]⟩, fun h => by cases h⟩
  . have hco : zcY c = true := by
     unfold zcY
     rw [any_f.2 hq]; rfl
    rw [zeC]
    simp only [zef, zS (Nat.le_refl _), cnF, id]
    exact h4 hw hco
 simpa [Bool.and_assoc] using h0
noncomputable def zhS (c : Config) : List Clo := [(Clo.c124 c), (Clo.c127 c), (Clo.c128 c), (Clo.c129 c), (Clo.c130 c)]
noncomputable def QL1 (c : Config) (n : Nat) : List Clo := zhS c ++ (List.range n).map fun p : Nat => Clo.c131 c (p : Int)
noncomputable def QL2 (c : Config) (n : Nat) : List Clo := QL1 c c.partitions.length ++ (List.range n).map fun p : Nat => Clo.c133 c (p : Int)
noncomputable def QL3 (c : Config) (n : Nat) : List Clo := QL2 c c.channels.length ++ (List.range n).map fun p : Nat => Clo.c135 c (p : Int)
noncomputable def QL4 (c : Config) : List Clo := QL3 c c.cores.length ++ [Clo.c137 c]
theorem zbi {α : Type} (g : Nat -> α) (n : Nat) : (List.range (n + 1)).map g = (List.range n).map g ++ [g n] := by simp [List.range_succ]
theorem zfb {c : Config} (hc : zbK c) : zBJ c = some (QL4 c) := by
 have hB : B47 = 140737488351232 := rfl
 have hpl := hc.parts
 have hcl := hc.cores
 have hhl := hc.chans
 have n1 : ∀ n, (QL1 c n).length = 5 + n := fun n => by simp [QL1, zhS]; omega
 have n2 : ∀ n, (QL2 c n).length = 5 + c.partitions.length + n := fun n => by simp [QL2, n1]
 have n3 : ∀ n, (QL3 c n).length = 5 + c.partitions.length + c.channels.length + n := fun n => by simp [QL3, n2]
 have l1 := zz (n := c.partitions.length) (f := fun i l => znk c (.l0 (i : Int) l)) (S := QL1 c) (fun i hi => by
  rw [zeD]
  simp only [zeg, zR hi, cnT, zf i (by omega), n1]
  rw [zbc (by simp only [List.length_singleton]; omega), cnT]
  unfold QL1
  rw [zbi, List.append_assoc])
 have l2 := zz (n := c.channels.length) (f := fun i l => znk c (.l4 (i : Int) l)) (S := QL2 c) (fun i hi => by
  rw [zeD]
  simp only [zeg, zR hi, cnT, zf i (by omega), n2]
  rw [zbc (by simp only [List.length_singleton]; omega), cnT]
  unfold QL2
  rw [zbi, List.append_assoc])
 have l3 := zz (n := c.cores.length) (f := fun i l => znk c (.l8 (i : Int) l)) (S := QL3 c) (fun i hi => by
  rw [zeD]
  simp only [zeg, zR hi, cnT, zf i (by omega), n3]
  rw [zbc (by simp only [List.length_singleton]; omega), cnT]
  unfold QL3
  rw [zbi, List.append_assoc])
 have z1 : QL1 c 0 = zhS c := by simp [QL1]
 have z2 : QL2 c 0 = QL1 c c.partitions.length := by simp [QL2]
 have z3 : QL3 c 0 = QL2 c c.channels.length := by simp [QL3]
 rw [z1] at l1; rw [z2] at l2; rw [z3] at l3
 refine Eq.trans (show _ = znk c (.l0 0 (zhS c)) from rfl) (Eq.trans l1 ?_)
 rw [zeD]
 simp only [zeg, zS (Nat.le_refl _), cnF]
 refine Eq.trans l2 ?_
 rw [zeD]
 simp only [zeg, zS (Nat.le_refl _), cnF]
 refine Eq.trans l3 ?_
 rw [zeD]
 simp only [zeg, zS (Nat.le_refl _), cnF, n3]
 rw [zbc (by simp only [List.length_singleton]; omega), cnT]
 rfl
theorem zzK (c : Config) : (QL4 c).length = 6 + c.partitions.length + c.channels.length + c.cores.length := by simp [QL4, QL3, QL2, QL1, zhS]; omega
theorem zzJ (c : Config) {i : Nat} (hi : i < 5) : zfk (QL4 c) i = (zhS c).getD i Clo.none := by
 have h : (zhS c).length = 5 := rfl
 unfold zfk QL4 QL3 QL2 QL1
 rw [zac, if_pos (by simp; omega), zac, if_pos (by simp; omega), zac, if_pos (by simp; omega), zac, if_pos (by omega)]
theorem zdE {α : Type} (g : Nat -> α) {n i : Nat} (hi : i < n) (d : α) : ((List.range n).map g).getD i d = g i := by simp [List.getD, hi]
theorem L4_1 (c : Config) {p : Nat} (hp : p < c.partitions.length) : zfk (QL4 c) (5 + p) = Clo.c131 c (p : Int) := by
 have h : (zhS c).length = 5 := rfl
 unfold zfk QL4 QL3 QL2 QL1
 rw [zac, if_pos (by simp; omega), zac, if_pos (by simp; omega), zac, if_pos (by simp; omega), zac, if_neg (by omega), h, Nat.add_sub_cancel_left, zdE _ hp]
theorem zuO (c : Config) (n : Nat) : (QL1 c n).length = 5 + n := by simp [QL1, zhS]; omega
theorem zqk (c : Config) (n : Nat) : (QL2 c n).length = 5 + c.partitions.length + n := by simp [QL2, zuO]
theorem zql (c : Config) (n : Nat) : (QL3 c n).length = 5 + c.partitions.length + c.channels.length + n := by simp [QL3, zqk]
theorem L4_2 (c : Config) {p : Nat} (hp : p < c.channels.length) : zfk (QL4 c) (5 + c.partitions.length + p) = Clo.c133 c (p : Int) := by
 unfold zfk QL4
 rw [zac, if_pos (by rw [zql]; omega)]
 unfold QL3
 rw [zac, if_pos (by rw [zqk]; omega)]
 unfold QL2
 rw [zac, if_neg (by rw [zuO]; omega), zuO, Nat.add_sub_cancel_left, zdE _ hp]
theorem L4_3 (c : Config) {p : Nat} (hp : p < c.cores.length) : zfk (QL4 c) (5 + c.partitions.length + c.channels.length + p) = Clo.c135 c (p : Int) := by
 unfold zfk QL4
 rw [zac, if_pos (by rw [zql]; omega)]
 unfold QL3
 rw [zac, if_neg (by rw [zqk]; omega), zqk, Nat.add_sub_cancel_left, zdE _ hp]
theorem L4_4 (c : Config) : zfk (QL4 c) (5 + c.partitions.length + c.channels.length + c.cores.length) = Clo.c137 c := by
 unfold zfk QL4
 rw [zac, if_neg (by rw [zql]; omega), zql, Nat.sub_self]
 rfl
noncomputable def fC (c : Config) (i : Nat) : Option (Int × Where) := zui c (.l0 (i : Int))
theorem zdd {c : Config} (hc : zbK c) {i : Nat} {x : Clo} (hi : i < (QL4 c).length) (hx : zfk (QL4 c) i = x) {b : Bool} (h1 : zIA x = true) (h2 : za1 (ask x) = b) (h3 : b = false -> (ask x).e ≠ 0) : (b = false -> zca (fC c i) false) /\ (b = true -> fC c i = fC c (i + 1)) := by
 obtain ⟨q1, q2⟩ := zk (zfb hc)
 have q1' : zqL c = QL4 c := q1
 have hB : B47 = 140737488351232 := rfl
 have hpl := hc.parts
 have hcl := hc.cores
 have hhl := hc.chans
 have hl := zzK c
 unfold fC
 rw [zuj]
 simp only [zhI, q1', tnC, zR hi, zh hi, hx, h1, cnT, zcs, h2, zf i (by omega), id]
 cases b with
 | true => exact ⟨fun h => by (cases h), fun _ => rfl⟩
 | false =>
  refine ⟨fun _ => ⟨_, rfl, ?_⟩, fun h => by cases h⟩
  show ((ask x).e == 0) = false
  simpa using h3 rfl
theorem zeI {b : Bool} {e : Int} {w : Where} (he : e ≠ 0) : b = false -> (zp b e w).e ≠ 0 := fun h => by subst h; exact he
theorem zD1 {c : Config} (hc : zbK c) {kb : Bool} (hk : zk2 c = true -> zns c = some kb) : zca (zuq c) (zk2 c && kb) := by
 obtain ⟨q1, q2⟩ := zk (zfb hc)
 have q2' : zxg c = true := q2
 have hl := zzK c
 have e1 := zqz c.cores.length 1 4
 have e2 := zqz c.partitions.length 1 8
 have e3 : decide ((c.channels.length : Int) <= 16) = decide (c.channels.length <= 16) := by rw [Bool.eq_iff_iff, decide_eq_true_eq, decide_eq_true_eq]; omega
 have s0 := zdd hc (i := 0) (by omega) (zzJ c (by omega)) (b := decide (1 <= c.frames) && decide (c.frames <= 1024)) rfl (by
  show za1 (zp (zW c.frames 1 1024) 400 nowhere) = _
  rw [za8 (by decide), ze7]) (by
  show _ -> (zp (zW c.frames 1 1024) 400 nowhere).e ≠ 0
  rw [ze7]; exact zeI (by decide))
 have s1 := zdd hc (i := 1) (by omega) (zzJ c (by omega)) (b := decide (1 <= c.major) && decide (c.major <= 16384)) rfl (by
  show za1 (zp (zW c.major 1 16384) 401 nowhere) = _
  rw [za8 (by decide), ze7]) (by
  show _ -> (zp (zW c.major 1 16384) 401 nowhere).e ≠ 0
  rw [ze7]; exact zeI (by decide))
 have s2 := zdd hc (i := 2) (by omega) (zzJ c (by omega)) (b := decide (1 <= c.cores.length) && decide (c.cores.length <= 4)) rfl (by
  show za1 (zp (zW c.cores.length 1 4) 402 nowhere) = _
  rw [za8 (by decide), ze7]; exact e1) (by
  show _ -> (zp (zW c.cores.length 1 4) 402 nowhere).e ≠ 0
  rw [ze7, ← e1]; exact zeI (by decide))
 have s3 := zdd hc (i := 3) (by omega) (zzJ c (by omega)) (b := decide (1 <= c.partitions.length) && decide (c.partitions.length <= 8)) rfl (by
  show za1 (zp (zW c.partitions.length 1 8) 403 nowhere) = _
  rw [za8 (by decide), ze7]; exact e2) (by
  show _ -> (zp (zW c.partitions.length 1 8) 403 nowhere).e ≠ 0
  rw [ze7, ← e2]; exact zeI (by decide))
 have s4 := zdd hc (i := 4) (by omega) (zzJ c (by omega)) (b := decide (c.channels.length <= 16)) rfl (by
  show za1 (zp (decide ((c.channels.length : Int) <= 16)) 404 nowhere) = _
  rw [za8 (by decide), e3]) (by
  show _ -> (zp (decide ((c.channels.length : Int) <= 16)) 404 nowhere).e ≠ 0
  rw [e3]; exact zeI (by decide))
 have hend : zk2 c = true -> zca (fC c (5 + c.partitions.length + c.channels.length + c.cores.length)) kb := fun hpre => by
  obtain ⟨a1, a2⟩ := zk (hk hpre)
  have a1' : zwu c = kb := a1
  have a2' : zrJ c = true := a2
  obtain ⟨b1, b2⟩ := zk (show zq3 c = some (zp kb 423 nowhere) by
   unfold zq3 zlL
   rw [a1', a2']; rfl)
  have st := zdd hc (i := 5 + c.partitions.length + c.channels.length + c.cores.length) (by omega) (L4_4 c) (b := kb) b2 (by
   show za1 (zif c) = _
   rw [show zif c = _ from b1, za8 (by decide)]) (by
   show _ -> (zif c).e ≠ 0
   rw [show zif c = _ from b1]; exact zeI (by decide))
  cases hkb : kb with
  | false => exact st.1 hkb
  | true =>
   rw [st.2 hkb]
   obtain ⟨q1, q2⟩ := zk (zfb hc)
   have q1' : zqL c = QL4 c := q1
   unfold fC
   rw [zuj]
   simp only [zhI, q1', zS (show (QL4 c).length <= 5 + c.partitions.length + c.channels.length + c.cores.length + 1 by omega), cnF, id]
   exact ⟨_, rfl, rfl⟩
 have h8 : zbC c = true -> zcY c = true -> zcd c = true -> zca (fC c (5 + c.partitions.length + c.channels.length)) (zbN c && kb) := fun hw hp hh => by
  refine zcJ zca (n := c.cores.length) (f := fun k => fC c (5 + c.partitions.length + c.channels.length + k)) (q := fun k => !(zgW c k)) (e := kb) (fun k hkk => ?_) (fun hq => ?_)
  . obtain ⟨k1, k2, k3, k4⟩ := zdQ (zIE hc hkk)
    have k1' : zrI c k = true := k1
    obtain ⟨b1, b2⟩ := zk (show zq1 c k = some (zpp c k) by
     unfold zq1 zlK
     rw [k1']; rfl)
    have st := zdd hc (by omega) (L4_3 c hkk) (b := zgW c k) b2 (by
     show za1 (zie c k) = _
     rw [show zie c k = _ from b1]; exact k2) (by
     show _ -> (zie c k).e ≠ 0
     rw [show zie c k = _ from b1]; exact k4)
    exact ⟨fun h => st.1 (by simpa using h), fun h => st.2 (by simpa using h)⟩
  . have hco : zbN c = true := by
     unfold zbN
     rw [any_f.2 hq]; rfl
    exact hend (by unfold zk2; rw [hw, hp, hh, hco]; rfl)
 have h4 : zbC c = true -> zcY c = true -> zca (fC c (5 + c.partitions.length)) (zcd c && (zbN c && kb)) := fun hw hp => by
  have hfew := zu6 hw (zjz hp)
  refine zcJ zca (n := c.channels.length) (f := fun k => fC c (5 + c.partitions.length + k)) (q := fun k => !(zfn c k)) (e := zbN c && kb) (fun k hkk => ?_) (fun hq => ?_)
  . obtain ⟨k1, k2, k3, k4⟩ := zdQ (zyD hfew hkk)
    have k1' : zrH c k = true := k1
    obtain ⟨b1, b2⟩ := zk (show zqZ c k = some (zpo c k) by
     unfold zqZ zlJ
     rw [k1']; rfl)
    have st := zdd hc (by omega) (L4_2 c hkk) (b := zfn c k) b2 (by
     show za1 (zid c k) = _
     rw [show zid c k = _ from b1]; exact k2) (by
     show _ -> (zid c k).e ≠ 0
     rw [show zid c k = _ from b1]; exact k4)
    exact ⟨fun h => st.1 (by simpa using h), fun h => st.2 (by simpa using h)⟩
  . have hco : zcd c = true := by
     unfold zcd
     rw [any_f.2 hq]; rfl
    exact h8 hw hp hco
 have h0 : zbC c = true -> zca (fC c 5) (zcY c && (zcd c && (zbN c && kb))) := fun hw => by
  refine zcJ zca (n := c.partitions.length) (f := fun k => fC c (5 + k)) (q := fun k => !(zdT c k)) (e := zcd c && (zbN c && kb)) (fun k hkk => ?_) (fun hq => ?_)
  . obtain ⟨k1, k2, k3, k4⟩ := zdQ (ztV hc hkk)
    have k1' : zrG c k = true := k1
    obtain ⟨b1, b2⟩ := zk (show zqX c k = some (zpn c k) by
     unfold zqX zlI
     rw [k1']; rfl)
    have st := zdd hc (by omega) (L4_1 c hkk) (b := zdT c k) b2 (by
     show za1 (zic c k) = _
     rw [show zic c k = _ from b1]; exact k2) (by
     show _ -> (zic c k).e ≠ 0
     rw [show zic c k = _ from b1]; exact k4)
    exact ⟨fun h => st.1 (by simpa using h), fun h => st.2 (by simpa using h)⟩
  . have hco : zcY c = true := by
     unfold zcY
     rw [any_f.2 hq]; rfl
    exact h4 hw hco
 have hgo : zca (fC c 0) (zbC c && (zcY c && (zcd c && (zbN c && kb)))) := by
  cases hw : zbC c with
  | true =>
   have hw' := hw
   simp only [zbC, Bool.and_eq_true] at hw'
   obtain ⟨⟨a1, a2⟩, ⟨b1, b2⟩, ⟨c1, c2⟩, ⟨d1, d2⟩, d3⟩ := hw'
   rw [s0.2 (by rw [a1, a2]; rfl), s1.2 (by rw [b1, b2]; rfl), s2.2 (by rw [c1, c2]; rfl), s3.2 (by rw [d1, d2]; rfl), s4.2 d3]
   exact h0 hw
  | false =>
   show zca (fC c 0) false
   unfold zbC at hw
   revert hw
   cases ha : (decide (1 <= c.frames) && decide (c.frames <= 1024)) with
   | false => exact fun _ => s0.1 ha
   | true =>
   rw [s0.2 ha]
   cases hb : (decide (1 <= c.major) && decide (c.major <= 16384)) with
   | false => exact fun _ => s1.1 hb
   | true =>
   rw [s1.2 hb]
   cases hcc : (decide (1 <= c.cores.length) && decide (c.cores.length <= 4)) with
   | false => exact fun _ => s2.1 hcc
   | true =>
   rw [s2.2 hcc]
   cases hd : (decide (1 <= c.partitions.length) && decide (c.partitions.length <= 8)) with
   | false => exact fun _ => s3.1 hd
   | true =>
   rw [s3.2 hd]
   cases he : decide (c.channels.length <= 16) with
   | false => exact fun _ => s4.1 he
   | true => intro h; cases h
 unfold zuq zoy
 rw [q2', cnT]
 unfold zk2
 have hgo' : zca (zui c (.l0 0)) _ := hgo
 simpa [Bool.and_assoc] using hgo'
theorem zQO (a : Int) : bop .quo .i64 a 16 = i64.wrap (a.tdiv 16) := by kernel_rfl
theorem zQP (a : Int) : bop .rem .i64 a 16 = a.tmod 16 := by kernel_rfl
theorem zfc (a : Nat) (h : a < 4611686018427387904) : bop .quo .i64 (a : Int) 16 = ((a / 16 : Nat) : Int) := by
 rw [zQO, show (a : Int).tdiv 16 = ((a / 16 : Nat) : Int) from by rw [Int.tdiv_eq_ediv_of_nonneg (by omega)]; omega]
 exact zaO _ (by omega) (by omega)
theorem zwo (a : Nat) : bop .rem .i64 (a : Int) 16 = ((a % 16 : Nat) : Int) := by
 rw [zQP, Int.tmod_eq_emod_of_nonneg (by omega)]; omega
theorem zr (n : Int) (m : Nat) (h : n = m) (hm : m < 4611686018427387904) : i64.wrap n = (m : Int) := by subst h; exact zaO _ (by omega) (by omega)
structure zbJ (x : Channel) : Prop where
 kind : x.kind = 1 ∨ x.kind = 2
 words : 1 <= x.words /\ x.words <= 16
 depth : (x.kind = 2 -> 1 <= x.depth /\ x.depth <= 8) /\ (x.kind = 1 -> x.depth = 0)
theorem zD0 {c : Config} {h : Nat} (hb : zfn c h = true) : zbJ (Ch c h) /\ zgi c h c.partitions.length = 1 /\ 1 <= zel c h c.partitions.length /\ zel c h c.partitions.length <= 4 := by
 simp only [zfn, Bool.and_eq_true, decide_eq_true_eq, beq_iff_eq] at hb
 obtain ⟨⟨⟨⟨k1, k2⟩, k3, k4⟩, k5⟩, k6, k7, k8⟩ := hb
 refine ⟨⟨by omega, ⟨k3, k4⟩, fun hk => ?_, fun hk => ?_⟩, by omega, by omega, ?_⟩
 . rw [show ((Ch c h).kind == 2) = true by simpa using hk] at k5
   simpa using k5
 . rw [show ((Ch c h).kind == 2) = false by simp; omega] at k5
   simpa using k5
 . cases hk : ((Ch c h).kind == 2) with
   | true => rw [hk] at k8; simp only [cnT] at k8; omega
   | false => rw [hk] at k8; simp only [cnF] at k8; omega
noncomputable def body (x : Channel) : Nat := if x.kind = 1 then x.words.toNat else x.depth.toNat * (1 + x.words.toNat)
noncomputable def stg (x : Channel) : Nat := if x.kind = 1 then 2 + x.words.toNat else 1 + body x
noncomputable def prt (x : Channel) : Nat := 3 + body x
theorem zgt {x : Channel} (h : zbJ x) : 1 <= body x /\ body x <= 136 := by
 have hw := h.words
 unfold body
 split
 . omega
 . rename_i hk
   have hk2 : x.kind = 2 := by rcases h.kind with h | h; exact absurd h hk; exact h
   obtain ⟨d1, d2⟩ := h.depth.1 hk2
   have h1 : 1 <= x.depth.toNat := by omega
   have h2 : x.depth.toNat <= 8 := by omega
   have h3 : 1 + x.words.toNat <= 17 := by omega
   exact ⟨Nat.mul_pos h1 (by omega), by have := Nat.mul_le_mul h2 h3; omega⟩
theorem zj7 {x : Channel} (h : zbJ x) : 1 <= stg x /\ stg x <= 137 := by
 have := zgt h
 have hw := h.words
 unfold stg
 split <;> omega
theorem zqF {x : Channel} (h : zbJ x) : 4 <= prt x /\ prt x <= 139 := by have := zgt h; unfold prt; omega
theorem zwf {a b : Int} (ha : 0 <= a) (hb : 0 <= b) : a * b = ((a.toNat * b.toNat : Nat) : Int) := by
 rw [Int.natCast_mul, Int.toNat_of_nonneg ha, Int.toNat_of_nonneg hb]
theorem zz1 {x : Channel} (h : zbJ x) : zkH x = (body x : Int) := by
 have hl := zgt h
 obtain ⟨w1, w2⟩ := h.words
 refine (zk (r := (body x : Int)) ?_).1
 unfold zjO ziT
 rw [decide_eq_false (by omega), decide_eq_false (by omega), cnF, cnF]
 rcases h.kind with hk | hk
 . rw [hk]
   simp only [beq_self_eq_true, cnT, id]
   unfold body; rw [if_pos hk, Int.toNat_of_nonneg (by omega)]
 . obtain ⟨d1, d2⟩ := h.depth.1 hk
   have hb : body x = x.depth.toNat * (1 + x.words.toNat) := by unfold body; rw [if_neg (by omega)]
   have e1 : i64.wrap (1 + x.words) = ((1 + x.words.toNat : Nat) : Int) := zr _ _ (by omega) (by omega)
   rw [hk, decide_eq_true (by omega), decide_eq_true (by omega), e1]
   have e2 : i64.wrap (x.depth * ((1 + x.words.toNat : Nat) : Int)) = (body x : Int) := zr _ _ (by rw [zwf (by omega) (by omega), hb, tnC]) (by omega)
   rw [e2]; rfl
theorem zGv {x : Channel} (h : zbJ x) : zvs x = (stg x : Int) := by
 have hl := zgt h
 obtain ⟨w1, w2⟩ := h.words
 refine (zk (r := (stg x : Int)) ?_).1
 unfold zpW zoG
 rw [zz1 h, show ((body x : Int) == 0) = false by simp; omega, cnF]
 rcases h.kind with hk | hk
 . rw [hk]
   simp only [beq_self_eq_true, cnT, id]
   rw [zr _ (2 + x.words.toNat) (by omega) (by omega)]
   unfold stg; rw [if_pos hk]
 . rw [hk, zr (1 + (body x : Int)) (1 + body x) (by omega) (by omega)]
   unfold stg; rw [if_neg (by omega)]; rfl
theorem zBi {x : Channel} (h : zbJ x) : zvr x = (prt x : Int) := by
 have hl := zgt h
 refine (zk (r := (prt x : Int)) ?_).1
 unfold zpV zoF
 rw [zz1 h, show ((body x : Int) == 0) = false by simp; omega, cnF, zr (3 + (body x : Int)) (3 + body x) (by omega) (by omega)]
 rfl
theorem zsb {x : Channel} (h : zbJ x) : zoe x = (stg x : Int) := by
 have hl := zgt h
 obtain ⟨w1, w2⟩ := h.words
 refine (zk (r := (stg x : Int)) ?_).1
 unfold zpX zoI
 rw [decide_eq_false (by omega), decide_eq_false (by omega), cnF, cnF]
 rcases h.kind with hk | hk
 . rw [hk]
   simp only [beq_self_eq_true, cnT, id]
   rw [zr _ (2 + x.words.toNat) (by omega) (by omega)]
   unfold stg; rw [if_pos hk]
 . obtain ⟨d1, d2⟩ := h.depth.1 hk
   have hb : body x = x.depth.toNat * (1 + x.words.toNat) := by unfold body; rw [if_neg (by omega)]
   have e1 : i64.wrap (1 + x.words) = ((1 + x.words.toNat : Nat) : Int) := zr _ _ (by omega) (by omega)
   have e2 : i64.wrap (x.depth * ((1 + x.words.toNat : Nat) : Int)) = (body x : Int) := zr _ _ (by rw [zwf (by omega) (by omega), hb, tnC]) (by omega)
   rw [hk, decide_eq_true (by omega), decide_eq_true (by omega), e1, e2, zr (1 + (body x : Int)) (1 + body x) (by omega) (by omega)]
   unfold stg; rw [if_neg (by omega)]; rfl
theorem zL7 {x : Channel} (h : zbJ x) : zzi x = (prt x : Int) := by
 have hl := zj7 h
 obtain ⟨w1, w2⟩ := h.words
 refine (zk (r := (prt x : Int)) ?_).1
 unfold zpY zoJ
 rw [zsb h, show ((stg x : Int) == 0) = false by simp; omega, cnF]
 rcases h.kind with hk | hk
 . rw [hk]
   simp only [beq_self_eq_true, cnT, id]
   rw [zr ((stg x : Int) + 1) (stg x + 1) (by omega) (by omega)]
   have : stg x + 1 = prt x := by unfold stg prt body; rw [if_pos hk, if_pos hk]; omega
   rw [this]
 . rw [hk, zr ((stg x : Int) + 2) (stg x + 2) (by omega) (by omega)]
   have : stg x + 2 = prt x := by unfold stg prt; rw [if_neg (by omega)]; omega
   rw [this]; rfl
structure zog (g : Region) : Prop where
 page : 0 <= g.page /\ g.page <= 255
 pages : 1 <= g.pages /\ g.pages <= 256 - g.page
noncomputable def zfj (x : Partition) (t i : Nat) : Bool := decide ((zm x.regions i).page.toNat / 16 <= t) && decide (t <= ((zm x.regions i).page.toNat + (zm x.regions i).pages.toNat - 1) / 16)
noncomputable def zX (x : Partition) (t : Nat) : Bool := (List.range x.regions.length).any (zfj x t)
noncomputable def zd2 (x : Partition) : Nat := cnt (zX x) 16
theorem zzt {x : Partition} (hx : x.regions.length <= 8) (hg : ∀ i, i < x.regions.length -> zog (zm x.regions i)) (t : Nat) : zus x t = some (zX x t) := by
 have h := zaf (n := x.regions.length) (f := fun i => zul x t (.l0 (i : Int))) (q := zfj x t) (r := some true) (e := some false) (fun i hi => by
  have ho := hg i hi
  obtain ⟨p1, p2⟩ := ho.page
  obtain ⟨p3, p4⟩ := ho.pages
  rw [zum]
  have e1 : bop .quo .i64 (zm x.regions i).page 16 = (((zm x.regions i).page.toNat / 16 : Nat) : Int) := by
   rw [← zfc _ (by omega), Int.toNat_of_nonneg p1]
  have e2 : i64.wrap ((zm x.regions i).page + (zm x.regions i).pages) = (((zm x.regions i).page.toNat + (zm x.regions i).pages.toNat : Nat) : Int) := zr _ _ (by omega) (by omega)
  have e3 : i64.wrap ((((zm x.regions i).page.toNat + (zm x.regions i).pages.toNat : Nat) : Int) - 1) = (((zm x.regions i).page.toNat + (zm x.regions i).pages.toNat - 1 : Nat) : Int) := zr _ _ (by omega) (by omega)
  simp only [zhJ, tnC, zR hi, zh hi, cnT, e1, e2, e3, zfc _ (show (zm x.regions i).page.toNat + (zm x.regions i).pages.toNat - 1 < 4611686018427387904 by omega), zf i (by omega), id, zlx]
  congr 1
  unfold zfj
  rw [Bool.eq_iff_iff]; simp only [Bool.and_eq_true, decide_eq_true_eq]; omega) (by
  rw [zum]
  simp only [zhJ, zS (Nat.le_refl _), cnF, id])
 exact Eq.trans (show _ = zul x t (.l0 0) from rfl) (Eq.trans h (zmU _))
theorem zaP (b : Nat -> Bool) {n j : Nat} (hn : n < 16) (hj : j < 16) : zba (List.set ([b 0, b 1, b 2, b 3, b 4, b 5, b 6, b 7, b 8, b 9, b 10, b 11, b 12, b 13, b 14, b 15] : List Bool) n true) j = (decide (j = n) || b j) := by
 have e : ([b 0, b 1, b 2, b 3, b 4, b 5, b 6, b 7, b 8, b 9, b 10, b 11, b 12, b 13, b 14, b 15] : List Bool) = (List.range 16).map b := rfl
 rw [e]
 simp only [zba, List.getD, List.getElem?_set, List.length_map, List.length_range, List.getElem?_map, List.getElem?_range hj]
 by_cases h : n = j
 . subst h; simp [hj]
 . rw [if_neg h, decide_eq_false (fun e => h e.symm)]; simp
theorem zz0 (b : Nat -> Bool) {j : Nat} (hj : j < 16) : zba ([b 0, b 1, b 2, b 3, b 4, b 5, b 6, b 7, b 8, b 9, b 10, b 11, b 12, b 13, b 14, b 15] : List Bool) j = b j := by
 have e : ([b 0, b 1, b 2, b 3, b 4, b 5, b 6, b 7, b 8, b 9, b 10, b 11, b 12, b 13, b 14, b 15] : List Bool) = (List.range 16).map b := rfl
 rw [e]
 simp [zba, List.getD, hj]
noncomputable def T0 (x : Partition) (i : Nat) (b : Nat -> Bool) : Option Int := zkN x (.l0 (i : Int) (b 0) (b 1) (b 2) (b 3) (b 4) (b 5) (b 6) (b 7) (b 8) (b 9) (b 10) (b 11) (b 12) (b 13) (b 14) (b 15))
noncomputable def T4 (x : Partition) (i k : Nat) (b : Nat -> Bool) : Option Int := zkN x (.l4 (i : Int) (zm x.regions i).pages (k : Int) (b 0) (b 1) (b 2) (b 3) (b 4) (b 5) (b 6) (b 7) (b 8) (b 9) (b 10) (b 11) (b 12) (b 13) (b 14) (b 15) (zm x.regions i).page (zm x.regions i).pages (zm x.regions i).frame (zm x.regions i).rights)
noncomputable def T8 (x : Partition) (n : Int) (b : Nat -> Bool) (t : Nat) : Option Int := zkN x (.l8 n (b 0) (b 1) (b 2) (b 3) (b 4) (b 5) (b 6) (b 7) (b 8) (b 9) (b 10) (b 11) (b 12) (b 13) (b 14) (b 15) (t : Int))
theorem zDP {x : Partition} {i k : Nat} (ho : zog (zm x.regions i)) (hk : (k : Int) < (zm x.regions i).pages) (b : Nat -> Bool) : T4 x i k b = T4 x i (k + 1) fun j => decide (j = ((zm x.regions i).page.toNat + k) / 16) || b j := by
 obtain ⟨p1, p2⟩ := ho.page
 obtain ⟨p3, p4⟩ := ho.pages
 have e1 : i64.wrap ((zm x.regions i).page + (k : Int)) = (((zm x.regions i).page.toNat + k : Nat) : Int) := zr _ _ (by omega) (by omega)
 have hn : ((zm x.regions i).page.toNat + k) / 16 < 16 := by omega
 unfold T4
 rw [zdM]
 simp only [zdR, decide_eq_true hk, cnT, e1, zfc _ (show (zm x.regions i).page.toNat + k < 4611686018427387904 by omega), tnC, zh hn, zf k (by omega), id]
 rw [zaP b hn (show 0 < 16 by omega), zaP b hn (show 1 < 16 by omega), zaP b hn (show 2 < 16 by omega), zaP b hn (show 3 < 16 by omega), zaP b hn (show 4 < 16 by omega), zaP b hn (show 5 < 16 by omega), zaP b hn (show 6 < 16 by omega), zaP b hn (show 7 < 16 by omega), zaP b hn (show 8 < 16 by omega), zaP b hn (show 9 < 16 by omega), zaP b hn (show 10 < 16 by omega), zaP b hn (show 11 < 16 by omega), zaP b hn (show 12 < 16 by omega), zaP b hn (show 13 < 16 by omega), zaP b hn (show 14 < 16 by omega), zaP b hn (show 15 < 16 by omega)]
theorem zsX (q : Nat -> Bool) (n : Nat) : (List.range (n + 1)).any q = ((List.range n).any q || q n) := by
 rw [List.range_succ, List.any_append]; simp
theorem zIq {x : Partition} {i : Nat} (hi : i < 4611686018427387904) (ho : zog (zm x.regions i)) (b : Nat -> Bool) : T4 x i 0 b = T0 x (i + 1) fun j => b j || zfj x j i := by
 obtain ⟨p1, p2⟩ := ho.page
 obtain ⟨p3, p4⟩ := ho.pages
 have h := zz (n := (zm x.regions i).pages.toNat) (f := fun k b => T4 x i k b) (S := fun k j => b j || (List.range k).any fun k' => decide (j = ((zm x.regions i).page.toNat + k') / 16)) (fun k hk => by
  rw [zDP ho (by omega)]
  congr 1
  funext j
  rw [zsX]
  cases b j <;> cases ((List.range k).any fun k' => decide (j = ((zm x.regions i).page.toNat + k') / 16)) <;> cases decide (j = ((zm x.regions i).page.toNat + k) / 16) <;> rfl)
 simp only [List.range_zero, List.any_nil, Bool.or_false] at h
 refine h.trans ?_
 have hb : (fun j => b j || (List.range (zm x.regions i).pages.toNat).any fun k' => decide (j = ((zm x.regions i).page.toNat + k') / 16)) = fun j => b j || zfj x j i := by
  funext j
  congr 1
  rw [Bool.eq_iff_iff, zsY]
  simp only [zfj, Bool.and_eq_true, decide_eq_true_eq]
  constructor
  . rintro ⟨k, hk, rfl⟩
    exact ⟨Nat.div_le_div_right (by omega), Nat.div_le_div_right (by omega)⟩
  . rintro ⟨h1, h2⟩
    by_cases hc : 16 * j <= (zm x.regions i).page.toNat
    . exact ⟨0, by omega, by omega⟩
    . exact ⟨16 * j - (zm x.regions i).page.toNat, by omega, by omega⟩
 rw [hb]
 unfold T4 T0
 rw [zdM]
 have e1 : decide ((((zm x.regions i).pages.toNat : Nat) : Int) < (zm x.regions i).pages) = false := decide_eq_false (by omega)
 simp only [zdR, e1, cnF, zf i hi, id]
theorem zIp {x : Partition} (hx : x.regions.length <= 8) (hg : ∀ i, i < x.regions.length -> zog (zm x.regions i)) : T0 x 0 (fun _ => false) = T0 x x.regions.length (zX x) := by
 have h := zz (n := x.regions.length) (f := fun i b => T0 x i b) (S := fun i j => (List.range i).any (zfj x j)) (fun i hi => by
  have e : T0 x i (fun j => (List.range i).any (zfj x j)) = T4 x i 0 (fun j => (List.range i).any (zfj x j)) := by
   unfold T0 T4
   rw [zdM]
   simp only [zdR, zR hi, zh hi, cnT, tnC, id]
   rfl
  rw [e, zIq (by omega) (hg i hi)]
  congr 1
  funext j
  rw [zsX])
 exact h
theorem zBX {x : Partition} (hx : x.regions.length <= 8) (hg : ∀ i, i < x.regions.length -> zog (zm x.regions i)) : zBL x = some (zd2 x : Int) := by
 have h8 := zz (n := 16) (f := fun t (n : Nat) => T8 x (n : Int) (zX x) t) (S := fun t => cnt (zX x) t) (fun t ht => by
  have hl := zbM (zX x) t
  unfold T8
  have e35 : ∀ n : Int, zkN x (.l35 n (zX x 0) (zX x 1) (zX x 2) (zX x 3) (zX x 4) (zX x 5) (zX x 6) (zX x 7) (zX x 8) (zX x 9) (zX x 10) (zX x 11) (zX x 12) (zX x 13) (zX x 14) (zX x 15) (t : Int)) = zkN x (.l8 n (zX x 0) (zX x 1) (zX x 2) (zX x 3) (zX x 4) (zX x 5) (zX x 6) (zX x 7) (zX x 8) (zX x 9) (zX x 10) (zX x 11) (zX x 12) (zX x 13) (zX x 14) (zX x 15) ((t + 1 : Nat) : Int)) := fun n => by
   rw [zdM]
   simp only [zdR, zf t (by omega), id]
  rw [zdM]
  simp only [zdR, show decide ((t : Int) < 16) = true from decide_eq_true (by omega), zh ht, cnT, tnC, zz0 (zX x) ht, zf (cnt (zX x) t) (by omega), id]
  rw [e35, e35, zcM]
  cases zX x t <;> rfl)
 have hT := zIp hx hg
 refine Eq.trans (show _ = T0 x 0 (fun _ => false) from rfl) (Eq.trans hT ?_)
 have e : T0 x x.regions.length (zX x) = T8 x 0 (zX x) 0 := by
  unfold T0 T8
  rw [zdM]
  simp only [zdR, zS (Nat.le_refl _), cnF, id]
  rfl
 rw [e]
 refine Eq.trans h8 ?_
 unfold T8
 rw [zdM]
 simp only [zdR, show decide (((16 : Nat) : Int) < 16) = false from rfl, cnF, id]
 rfl
noncomputable def zcO (q : Nat -> Nat -> Bool) (p n : Nat) : List LayoutEnd := ((List.range n).filter (q p)).map fun i : Nat => (⟨(p : Int), (i : Int)⟩ : LayoutEnd)
noncomputable def zc2 (c : Config) (q : Nat -> Nat -> Bool) : Nat -> List LayoutEnd
 | 0 => []
 | n + 1 => zc2 c q n ++ zcO q n (zL c n)
theorem ze2 (q : Nat -> Nat -> Bool) (p n : Nat) : zcO q p (n + 1) = zcO q p n ++ cond (q p n) [⟨(p : Int), (n : Int)⟩] [] := by
 unfold zcO
 rw [List.range_succ, List.filter_append, List.map_append]
 cases h : q p n <;> simp [h]
theorem zem (q : Nat -> Nat -> Bool) (p : Nat) : ∀ n, (zcO q p n).length = cnt (q p) n
 | 0 => rfl
 | n + 1 => by rw [ze2, List.length_append, zem q p n, zcM]; cases q p n <;> rfl
theorem zdj (c : Config) (q : Nat -> Nat -> Bool) : ∀ n, (zc2 c q n).length = tot (fun p => cnt (q p) (zL c p)) n
 | 0 => rfl
 | n + 1 => by rw [zc2, List.length_append, zdj c q n, zem]; rfl
noncomputable def zvK (c : Config) (h : Int) : List LayoutEnd := zc2 c (zbp c h) c.partitions.length
noncomputable def zIG (c : Config) (h : Int) : List LayoutEnd := zc2 c (zax c h) c.partitions.length
theorem zwb {c : Config} (hw : Few c) (h : Int) : zBK c h = some (zvK c h, zIG c h) := by
 have h8 := hw.parts
 have inner : ∀ q, q < c.partitions.length -> ∀ s d : List LayoutEnd, s.length <= 64 -> d.length <= 64 -> zg5 c h (.l4 (q : Int) (q : Int) (P c q).ports ((P c q).ports.length) 0 s d) = zg5 c h (.l0 ((q + 1 : Nat) : Int) (s ++ zcO (zbp c h) q (zL c q)) (d ++ zcO (zax c h) q (zL c q))) := fun q hq s d hs hd => by
  have hp8 := hw.ports q hq
  have := zz (n := zL c q) (f := fun k (x : List LayoutEnd × List LayoutEnd) => zg5 c h (.l4 (q : Int) (q : Int) (P c q).ports ((P c q).ports.length) (k : Int) x.1 x.2)) (S := fun k => (s ++ zcO (zbp c h) q k, d ++ zcO (zax c h) q k)) (fun k hk => by
   have hk' : k < (P c q).ports.length := hk
   have l1 := zbM (zbp c h q) k
   have l2 := zbM (zax c h q) k
   have e1 := zem (zbp c h) q k
   have e2 := zem (zax c h) q k
   rw [zgc]
   have b1 : leB (((s ++ zcO (zbp c h) q k).length + ([(⟨(q : Int), (k : Int)⟩ : LayoutEnd)] : List LayoutEnd).length) * 16) 140737488355328 = true := zbc (by simp only [List.length_append, List.length_singleton]; omega)
   have b2 : leB (((d ++ zcO (zax c h) q k).length + ([(⟨(q : Int), (k : Int)⟩ : LayoutEnd)] : List LayoutEnd).length) * 16) 140737488355328 = true := zbc (by simp only [List.length_append, List.length_singleton]; omega)
   simp only [zfm, tnC, cnT, zR hk', zh hk', b1, b2, id]
   have e23 : ∀ a b : List LayoutEnd, zg5 c h (.l23 (q : Int) (q : Int) (P c q).ports ((P c q).ports.length) (k : Int) a b) = zg5 c h (.l4 (q : Int) (q : Int) (P c q).ports ((P c q).ports.length) ((k + 1 : Nat) : Int) a b) := fun a b => by
    rw [zgc]
    simp only [zfm, zf k (by omega), id]
   rw [e23, e23, e23, ze2, ze2]
   unfold zbp zax
   show cond (!((Pt c q k).channel == h)) _ (cond (Pt c q k).source _ _) = _
   cases (Pt c q k).channel == h <;> cases (Pt c q k).source <;> simp)
  dsimp only at this
  rw [show zcO (zbp c h) q 0 = [] from rfl, show zcO (zax c h) q 0 = [] from rfl, List.append_nil, List.append_nil] at this
  refine Eq.trans this ?_
  rw [zgc]
  have hi' : decide ((zL c q : Int) < ((P c q).ports.length : Int)) = false := zS (Nat.le_refl _)
  simp only [zfm, hi', cnF, zf q (by omega), id]
 have outer := zz (n := c.partitions.length) (f := fun q (x : List LayoutEnd × List LayoutEnd) => zg5 c h (.l0 (q : Int) x.1 x.2)) (S := fun q => (zc2 c (zbp c h) q, zc2 c (zax c h) q)) (fun q hq => by
  rw [zgc]
  simp only [zfm, zR hq, zh hq, cnT, tnC, id]
  have s1 := zlh hw h (n := q) (by omega)
  have s2 := zla hw h (n := q) (by omega)
  exact inner q hq _ _ (by rw [zdj]; exact s1) (by rw [zdj]; exact s2))
 refine Eq.trans (show _ = zg5 c h (.l0 0 [] []) from rfl) (Eq.trans outer ?_)
 rw [zgc]
 simp only [zfm, zS (Nat.le_refl _), cnF, id]
 rfl
theorem zuz (c : Config) (h : Int) : (zvK c h).length = zgi c h c.partitions.length := zdj c _ _
theorem zs8 (c : Config) (h : Int) : (zIG c h).length = zel c h c.partitions.length := zdj c _ _
structure zvS (c : Config) (g : Region) : Prop where
 ok : zog g
 frame : 0 <= g.frame
 fits : g.frame + g.pages <= c.frames
structure zaC (c : Config) : Prop where
 few : Few c
 frames : 1 <= c.frames /\ c.frames <= 1024
 least : 1 <= c.partitions.length
 chans : c.channels.length <= 16
 nregs : ∀ p, p < c.partitions.length -> 1 <= zap c p /\ zap c p <= 8
 regs : ∀ p k, p < c.partitions.length -> k < zap c p -> zvS c (Rg c p k)
 regb : ∀ p k, p < c.partitions.length -> k < zap c p -> zho c p k = true
 port : ∀ p k, p < c.partitions.length -> k < zL c p -> 0 <= (Pt c p k).channel /\ (Pt c p k).channel < c.channels.length
 chan : ∀ h, h < c.channels.length -> zbJ (Ch c h) /\ zgi c h c.partitions.length = 1 /\ 1 <= zel c h c.partitions.length /\ zel c h c.partitions.length <= 4
theorem zBs {c : Config} (hf : 1 <= c.frames /\ c.frames <= 1024) {g : Region} (h : zf0 c g = true) (hg : I64 g.frame) : zvS c g := by
 unfold zf0 at h
 unfold I64 at hg
 simp only [Bool.and_eq_true, decide_eq_true_eq] at h
 obtain ⟨⟨⟨⟨⟨h1, h2⟩, h3, h4⟩, h5⟩, h6⟩, h7, h8⟩ := h
 rw [zaO _ (by omega) (by omega)] at h4 h6
 exact ⟨⟨⟨h1, h2⟩, ⟨h3, h4⟩⟩, h5, by omega⟩
theorem zqw {c : Config} (hc : zbK c) (h : zk2 c = true) : zaC c := by
 simp only [zk2, Bool.and_eq_true] at h
 obtain ⟨hw, hp, hh, hk⟩ := h
 have hp' := zjz hp
 have hh' := zjz hh
 have hfew := zu6 hw hp'
 have hw' := hw
 simp only [zbC, Bool.and_eq_true, decide_eq_true_eq] at hw'
 have hf : 1 <= c.frames /\ c.frames <= 1024 := hw'.1
 have hpart : ∀ p, p < c.partitions.length -> _ := fun p hp => by
  have := hp' p hp
  simp only [zdT, zoT, Bool.and_eq_true, decide_eq_true_eq] at this
  exact this
 refine ⟨hfew, hf, hw'.2.2.2.1.1, hw'.2.2.2.2, fun p hp => ?_, fun p k hp hk => ?_, fun p k hp hk => ?_, fun p k hp hk => ?_, fun h hh => zD0 (hh' h hh)⟩
 . exact (hpart p hp).1.1.1.1.2.2.2
 . have := zjz (hpart p hp).1.1.1.2 k hk
   simp only [zho, Bool.and_eq_true] at this
   exact zBs hf this.1.1 (hc.region p k hp hk).1
 . exact zjz (hpart p hp).1.1.1.2 k hk
 . have h := any_f.1 (by simpa using (hpart p hp).2) k hk
   unfold zfp at h
   have hcl := hw'.2.2.2.2
   rw [zaO _ (by omega) (by omega)] at h
   simp only [Bool.not_eq_false', Bool.and_eq_true, decide_eq_true_eq] at h
   omega
theorem zAN {c : Config} (g : zaC c) {p : Nat} (hp : p < c.partitions.length) : zwZ (P c p) c.channels.length = some true := by
 have hn := (g.nregs p hp).2
 have hq := g.few.ports p hp
 unfold zap at hn
 unfold zL at hq
 have h0 := zz (n := (P c p).regions.length) (f := fun i (_ : Unit) => zuk (P c p) c.channels.length (.l0 (i : Int))) (S := fun _ => ()) (fun i hi => by
  have hr := g.regs p i hp hi
  obtain ⟨a1, a2⟩ := hr.ok.page
  obtain ⟨a3, a4⟩ := hr.ok.pages
  unfold Rg at a1 a2 a3 a4
  rw [zis]
  simp only [zfG, tnC, zR hi, zh hi, cnT]
  have ew : i64.wrap (256 - (zm (P c p).regions i).page) = 256 - (zm (P c p).regions i).page := zaO _ (by omega) (by omega)
  rw [decide_eq_false (by omega), decide_eq_false (by omega), decide_eq_false (by omega), decide_eq_false (by rw [ew]; omega), zf i (by omega)]
  rfl)
 have h4 := zz (n := (P c p).ports.length) (f := fun i (_ : Unit) => zuk (P c p) c.channels.length (.l4 (i : Int))) (S := fun _ => ()) (fun i hi => by
  obtain ⟨a1, a2⟩ := g.port p i hp hi
  unfold Pt at a1 a2
  rw [zis]
  simp only [zfG, tnC, zR hi, zh hi, cnT]
  rw [decide_eq_false (by omega), decide_eq_false (by omega), zf i (by omega)]
  rfl)
 unfold zwZ zoE
 rw [decide_eq_false (by omega), decide_eq_false (by omega), cnF, cnF]
 refine Eq.trans h0 ?_
 rw [zis]
 simp only [zfG, zS (Nat.le_refl _), cnF]
 refine Eq.trans h4 ?_
 rw [zis]
 simp only [zfG, zS (Nat.le_refl _), cnF, id]
theorem zz4 {c : Config} (g : zaC c) {p : Nat} (hp : p < c.partitions.length) : zq4 c (P c p) = some true := by
 have hn := (g.nregs p hp).2
 have hq := g.few.ports p hp
 unfold zap at hn
 unfold zL at hq
 have h0 := zz (n := (P c p).regions.length) (f := fun i (_ : Unit) => zm8 c (P c p) (.l0 (i : Int))) (S := fun _ => ()) (fun i hi => by
  have hr := g.regs p i hp hi
  obtain ⟨a1, a2⟩ := hr.ok.page
  obtain ⟨a3, a4⟩ := hr.ok.pages
  unfold Rg at a1 a2 a3 a4
  rw [zgF]
  simp only [zdu, tnC, zR hi, zh hi, cnT]
  have ew : i64.wrap (256 - (zm (P c p).regions i).page) = 256 - (zm (P c p).regions i).page := zaO _ (by omega) (by omega)
  rw [decide_eq_false (by omega), decide_eq_false (by omega), decide_eq_false (by omega), decide_eq_false (by rw [ew]; omega), zf i (by omega)]
  rfl)
 have h4 := zz (n := (P c p).ports.length) (f := fun i (_ : Unit) => zm8 c (P c p) (.l4 (i : Int))) (S := fun _ => ()) (fun i hi => by
  obtain ⟨a1, a2⟩ := g.port p i hp hi
  unfold Pt at a1 a2
  rw [zgF]
  simp only [zdu, tnC, zR hi, zh hi, cnT]
  rw [decide_eq_false (by omega), decide_eq_false (by omega), zf i (by omega)]
  rfl)
 unfold zq4 ziZ
 rw [decide_eq_false (by omega), decide_eq_false (by omega), cnF, cnF]
 refine Eq.trans h0 ?_
 rw [zgF]
 simp only [zdu, zS (Nat.le_refl _), cnF]
 refine Eq.trans h4 ?_
 rw [zgF]
 simp only [zdu, zS (Nat.le_refl _), cnF, id]
theorem zNM {c : Config} (g : zaC c) (hk : 0 <= c.kernel /\ c.kernel < 1024) : zw1 c = some true := by
 have hn := g.few.parts
 have hq := g.chans
 have h0 := zz (n := c.partitions.length) (f := fun i (_ : Unit) => zun c (.l0 (i : Int))) (S := fun _ => ()) (fun i hi => by
  obtain ⟨k1, k2⟩ := zk (zz4 g hi)
  have k1' : zwv c (za c.partitions i) = true := k1
  have k2' : zrK c (za c.partitions i) = true := k2
  rw [zit]
  simp only [zfH, tnC, zR hi, zh hi, cnT, k1', k2', zf i (by omega)]
  rfl)
 have h4 := zz (n := c.channels.length) (f := fun i (_ : Unit) => zun c (.l4 (i : Int))) (S := fun _ => ()) (fun i hi => by
  obtain ⟨o, a1, a2, a3⟩ := g.chan i hi
  obtain ⟨k1, k2⟩ := zk (zwb g.few (i : Int))
  have k1' : zud c (i : Int) = _ := k1
  have k2' : zqa c (i : Int) = true := k2
  have hs := zj7 o
  have e1 := zsb o
  unfold Ch at e1
  have l1 := zuz c (i : Int)
  have l2 := zs8 c (i : Int)
  have f1 : ((stg (zo c.channels i) : Int) == 0) = false := by have : stg (zo c.channels i) = stg (Ch c i) := rfl; simp; omega
  have f2 : ((((zvK c (i : Int)).length : Nat) : Int) == 1) = true := by rw [l1, a1]; rfl
  rw [zit]
  simp only [zfH, tnC, zR hi, zh hi, cnT, k1', k2', e1, f1, f2, cnF, Bool.not_true]
  rw [decide_eq_false (by rw [l2]; omega), decide_eq_false (by rw [l2]; omega), zf i (by omega)]
  have ok := o.kind
  have od := o.depth.2
  unfold Ch at ok od
  cases hkk : ((zo c.channels i).kind == 1) with
  | false => rfl
  | true =>
   rw [od (by simpa using hkk)]; rfl)
 unfold zw1 zoH
 rw [decide_eq_false (by omega), decide_eq_false (by omega), decide_eq_false (by omega), decide_eq_false (by omega), cnF, cnF, cnF, cnF]
 refine Eq.trans h0 ?_
 rw [zit]
 simp only [zfH, zS (Nat.le_refl _), cnF]
 refine Eq.trans h4 ?_
 rw [zit]
 simp only [zfH, zS (Nat.le_refl _), cnF, id]
noncomputable def zqs (x : Partition) (h : Int) (s : Bool) (k : Nat) : Bool := ((zaI x.ports k).channel == h) && ((zaI x.ports k).source == s)
theorem zs9 {x : Partition} (hx : x.ports.length <= 8) (h : Int) (s : Bool) : zBI x h s = some (cnt (zqs x h s) x.ports.length : Int) := by
 have h0 := zz (n := x.ports.length) (f := fun i (n : Nat) => zni x h s (.l0 (n : Int) (i : Int))) (S := fun i => cnt (zqs x h s) i) (fun i hi => by
  have hl := zbM (zqs x h s) i
  have e15 : ∀ n : Int, zni x h s (.l15 n (i : Int)) = zni x h s (.l0 n ((i + 1 : Nat) : Int)) := fun n => by
   rw [znj]
   simp only [zgV, zf i (by omega)]
  rw [znj]
  simp only [zgV, tnC, zR hi, zh hi, cnT, zf (cnt (zqs x h s) i) (by omega), e15]
  rw [zcM]
  unfold zqs
  cases (zaI x.ports i).channel == h <;> cases (zaI x.ports i).source == s <;> rfl)
 refine Eq.trans (show _ = zni x h s (.l0 0 0) from rfl) (Eq.trans h0 ?_)
 rw [znj]
 simp only [zgV, zS (Nat.le_refl _), cnF, id]
theorem zAk (c : Config) (h : Int) (p : Nat) : zqs (P c p) h true = zbp c h p := by
 funext k; unfold zqs zbp Pt; cases (zaI (P c p).ports k).source <;> rfl
theorem zAj (c : Config) (h : Int) (p : Nat) : zqs (P c p) h false = zax c h p := by
 funext k; unfold zqs zax Pt; cases (zaI (P c p).ports k).source <;> rfl
theorem zH8 {c : Config} (g : zaC c) (hk : 0 <= c.kernel /\ c.kernel < 1024) : zwQ c = some true := by
 have hn := g.few.parts
 have hq := g.chans
 have h0 := zz (n := c.partitions.length) (f := fun i (_ : Unit) => zkM c (.l0 (i : Int))) (S := fun _ => ()) (fun i hi => by
  obtain ⟨k1, k2⟩ := zk (zAN g hi)
  have k1' : zGl (za c.partitions i) c.channels.length = true := k1
  have k2' : zxe (za c.partitions i) c.channels.length = true := k2
  rw [zeB]
  simp only [zee, tnC, zR hi, zh hi, cnT, k1', k2', zf i (by omega)]
  rfl)
 have h8 : ∀ i, i < c.channels.length -> ∀ (y z : Bool) (u : Int) (v : Bool) (d1 d2 d3 : Int), zkM c (.l8 (i : Int) 0 0 (i : Int) u v y z 0 d1 d2 d3) = zkM c (.l4 ((i + 1 : Nat) : Int)) := fun i hi y z u v d1 d2 d3 => by
  obtain ⟨o, a1, a2, a3⟩ := g.chan i hi
  have h := zz (n := c.partitions.length) (f := fun p (n : Nat × Nat) => zkM c (.l8 (i : Int) (n.1 : Int) (n.2 : Int) (i : Int) u v y z (p : Int) d1 d2 d3)) (S := fun p => (zgi c i p, zel c i p)) (fun p hp => by
   obtain ⟨k1, k2⟩ := zk (zs9 (g.few.ports p hp) (i : Int) true)
   obtain ⟨k3, k4⟩ := zk (zs9 (g.few.ports p hp) (i : Int) false)
   have k1' : zzh (za c.partitions p) (i : Int) true = _ := k1
   have k2' : zp9 (za c.partitions p) (i : Int) true = true := k2
   have k3' : zzh (za c.partitions p) (i : Int) false = _ := k3
   have k4' : zp9 (za c.partitions p) (i : Int) false = true := k4
   rw [zAk] at k1'
   rw [zAj] at k3'
   have b1 := zlh g.few (i : Int) (n := p) (by omega)
   have b2 := zla g.few (i : Int) (n := p) (by omega)
   have b3 := zbM (zbp c i p) (P c p).ports.length
   have b4 := zbM (zax c i p) (P c p).ports.length
   have b5 := g.few.ports p hp
   unfold zL at b5
   rw [zeB]
   simp only [zee, tnC, zR hp, zh hp, cnT, k1', k2', k3', k4', zf p (by omega)]
   rw [zr _ (zgi c i (p + 1)) (by simp only [zgi, tot, zL]; omega) (by simp only [zgi, tot, zL] at b1 ⊢; omega), zr _ (zel c i (p + 1)) (by simp only [zel, tot, zL]; omega) (by simp only [zel, tot, zL] at b2 ⊢; omega)])
  refine Eq.trans h ?_
  rw [zeB]
  have f2 : ((zgi c i c.partitions.length : Int) == 1) = true := by rw [a1]; rfl
  simp only [zee, zS (Nat.le_refl _), cnF, f2, Bool.not_true, zf i (by omega)]
  rw [decide_eq_false (by omega), decide_eq_false (by omega)]
  rfl
 have h4 := zz (n := c.channels.length) (f := fun i (_ : Unit) => zkM c (.l4 (i : Int))) (S := fun _ => ()) (fun i hi => by
  obtain ⟨o, a1, a2, a3⟩ := g.chan i hi
  have hs := zqF o
  have e1 := zBi o
  unfold Ch at e1
  have f1 : ((prt (zo c.channels i) : Int) == 0) = false := by have : prt (zo c.channels i) = prt (Ch c i) := rfl; simp; omega
  have ok := o.kind
  have od := o.depth.2
  unfold Ch at ok od
  rw [zeB]
  simp only [zee, tnC, zR hi, zh hi, cnT, e1, f1, cnF, h8 i hi]
  cases hkk : ((zo c.channels i).kind == 1) with
  | false => rfl
  | true =>
   rw [od (by simpa using hkk)]; rfl)
 unfold zwQ zov
 rw [decide_eq_false (by omega), decide_eq_false (by omega), decide_eq_false (by omega), decide_eq_false (by omega), cnF, cnF, cnF, cnF]
 refine Eq.trans h0 ?_
 rw [zeB]
 simp only [zee, zS (Nat.le_refl _), cnF]
 refine Eq.trans h4 ?_
 rw [zeB]
 simp only [zee, zS (Nat.le_refl _), cnF, id]
abbrev Pc := Nat × Nat × Owner
def mkR (x : Pc) : Bulkheadref15Piece := ⟨(x.1 : Int), (x.2.1 : Int), x.2.2⟩
noncomputable def K0 (c : Config) : Nat := c.kernel.toNat
noncomputable def pAt (c : Config) (i : Nat) : Nat := 16 * K0 c + 2 + 24 * i
noncomputable def dl (c : Config) (k : Nat) : List LayoutEnd := zIG c (k : Int)
noncomputable def nP (c : Config) : Nat := c.partitions.length
noncomputable def nC (c : Config) : Nat := c.channels.length
noncomputable def cAt (c : Config) : Nat -> Nat
 | 0 => pAt c (nP c)
 | k + 1 => cAt c k + 2 + stg (Ch c k) + (dl c k).length * prt (Ch c k)
noncomputable def tF (c : Config) : Nat -> Nat
 | 0 => (cAt c (nC c) + 15) / 16
 | i + 1 => tF c i + (1 + zd2 (P c i))
def zay (s : Nat) : Nat -> List LayoutEnd -> List Pc
 | _, [] => []
 | a, e :: l => (a, s, ⟨8, e.partition, e.port⟩) :: zay s (a + s) l
theorem zfY (s : Nat) : ∀ (a : Nat) (l : List LayoutEnd) (e : LayoutEnd), zay s a (l ++ [e]) = zay s a l ++ [(a + l.length * s, s, ⟨8, e.partition, e.port⟩)]
 | a, [], e => by simp [zay]
 | a, x :: l, e => by
  rw [List.cons_append, zay, zay, zfY s (a + s) l e, List.length_cons, List.cons_append]
  congr 4
  rw [Nat.add_mul]; omega
theorem zfZ (s : Nat) : ∀ (a : Nat) (l : List LayoutEnd), (zay s a l).length = l.length
 | _, [] => rfl
 | a, _ :: l => by rw [zay, List.length_cons, List.length_cons, zfZ s (a + s) l]
noncomputable def zh6 (c : Config) (i : Nat) : List Pc := [(pAt c i, 2, ⟨3, (i : Int), 0⟩), (pAt c i + 2, 17, ⟨4, (i : Int), 0⟩), (pAt c i + 19, 5, ⟨5, (i : Int), 0⟩)]
noncomputable def zbS (c : Config) : Nat -> List Pc
 | 0 => []
 | i + 1 => zbS c i ++ zh6 c i
noncomputable def zfJ (c : Config) (k : Nat) : List Pc := [(cAt c k, 2, ⟨6, (k : Int), 0⟩), (cAt c k + 2, stg (Ch c k), ⟨7, (k : Int), 0⟩)]
noncomputable def dAt (c : Config) (k : Nat) : Nat := cAt c k + 2 + stg (Ch c k)
noncomputable def zcV (c : Config) : Nat -> List Pc
 | 0 => []
 | k + 1 => (zcV c k ++ zfJ c k) ++ zay (prt (Ch c k)) (dAt c k) (dl c k)
noncomputable def rep (f i : Nat) : Nat -> List Pc
 | 0 => []
 | n + 1 => rep f i n ++ [(16 * (f + n), 16, ⟨9, (i : Int), 0⟩)]
noncomputable def zeG (c : Config) : Nat -> List Pc
 | 0 => []
 | i + 1 => zeG c i ++ rep (tF c i) i (1 + zd2 (P c i))
noncomputable def bar (c : Config) : List Pc := [(16 * K0 c, 2, ⟨2, 0, 0⟩)]
noncomputable def zaJ (c : Config) : List Pc := bar c ++ zbS c (nP c) ++ zcV c (nC c) ++ zeG c (nP c)
theorem zkE (c : Config) : ∀ n, (zbS c n).length = 3 * n
 | 0 => rfl
 | n + 1 => by rw [zbS, List.length_append, zkE c n]; simp [zh6]; omega
theorem zqG (f i : Nat) : ∀ n, (rep f i n).length = n
 | 0 => rfl
 | n + 1 => by rw [rep, List.length_append, zqG f i n]; rfl
theorem zle (x : Partition) : zd2 x <= 16 := zbM _ _
theorem zqe (c : Config) : ∀ n, (zeG c n).length <= 17 * n
 | 0 => Nat.le_refl _
 | n + 1 => by rw [zeG, List.length_append, zqG]; have := zqe c n; have := zle (P c n); omega
theorem zvY {c : Config} (g : zaC c) {k : Nat} (hk : k < nC c) : 1 <= (dl c k).length /\ (dl c k).length <= 4 := by
 obtain ⟨_, _, h1, h2⟩ := g.chan k hk
 rw [dl, zs8]; exact ⟨h1, h2⟩
theorem zlw {c : Config} (g : zaC c) : ∀ n, n <= nC c -> (zcV c n).length <= 6 * n
 | 0, _ => Nat.le_refl _
 | n + 1, h => by
  rw [zcV, List.length_append, List.length_append, zfZ]
  have := zlw g n (by omega)
  have := (zvY g (show n < nC c by omega)).2
  simp [zfJ]; omega
theorem zvj {c : Config} (g : zaC c) (hk : 0 <= c.kernel /\ c.kernel < 1024) {i : Nat} (hi : i <= nP c) : pAt c i <= 17000 := by
 have := g.few.parts
 unfold nP at hi
 unfold pAt K0; omega
theorem zz3 {c : Config} (g : zaC c) {k : Nat} (hk : k < nC c) : cAt c k + 7 <= cAt c (k + 1) /\ cAt c (k + 1) <= cAt c k + 700 := by
 obtain ⟨o, _⟩ := g.chan k hk
 have h1 := zj7 o
 have h2 := zqF o
 have h3 := zvY g hk
 have h4 := Nat.mul_le_mul h3.2 h2.2
 have h5 := Nat.mul_le_mul h3.1 h2.1
 rw [cAt]; omega
theorem zz2 {c : Config} (g : zaC c) (hk : 0 <= c.kernel /\ c.kernel < 1024) : ∀ n, n <= nC c -> cAt c n <= 17000 + 700 * n
 | 0, _ => by rw [cAt]; exact zvj g hk (Nat.le_refl _)
 | n + 1, h => by
  have := zz2 g hk n (by omega)
  have h2 := (zz3 g (show n < nC c by omega)).2
  exact Nat.le_trans h2 (Nat.le_trans (Nat.add_le_add_right this 700) (Nat.le_of_eq (by rw [Nat.mul_succ, Nat.add_assoc])))
theorem ziI {c : Config} (g : zaC c) (hk : 0 <= c.kernel /\ c.kernel < 1024) {n : Nat} (h : n <= nC c) : cAt c n <= 30000 := by
 have := zz2 g hk n h
 have := g.chans
 unfold nC at h; omega
theorem zIb {c : Config} (g : zaC c) (hk : 0 <= c.kernel /\ c.kernel < 1024) : ∀ n, tF c n <= 2000 + 17 * n
 | 0 => by rw [tF]; have := ziI g hk (Nat.le_refl (nC c)); omega
 | n + 1 => by rw [tF]; have := zIb g hk n; have := zle (P c n); omega
theorem zqd {c : Config} (g : zaC c) (hk : 0 <= c.kernel /\ c.kernel < 1024) {n : Nat} (h : n <= nP c) : tF c n <= 3000 := by
 have := zIb g hk n
 have := g.few.parts
 unfold nP at h; omega
theorem zdU {α : Type} {xs : List α} {b : Nat} (h : xs.length <= 4096) (hb : b <= 100) (y : α) : leB ((xs.length + [y].length) * b) 140737488355328 = true := zbc (by
 exact Nat.le_trans (Nat.mul_le_mul (show xs.length + [y].length <= 4097 by rw [List.length_singleton]; omega) hb) (by decide))
noncomputable def rA (c : Config) (i : Nat) : List Pc := bar c ++ zbS c i
noncomputable def rB (c : Config) (k : Nat) : List Pc := rA c (nP c) ++ zcV c k
noncomputable def rC (c : Config) (i : Nat) : List Pc := rB c (nC c) ++ zeG c i
theorem zBo {c : Config} (g : zaC c) {i : Nat} (hi : i <= nP c) : (rA c i).length <= 100 := by
 have := g.few.parts
 unfold nP at hi
 rw [rA, List.length_append, zkE]; simp [bar]; omega
theorem zvm {c : Config} (g : zaC c) {k : Nat} (hk : k <= nC c) : (rB c k).length <= 200 := by
 have := g.chans
 have h1 := zBo g (Nat.le_refl (nP c))
 have h2 := zlw g k hk
 unfold nC at hk
 rw [rB, List.length_append]; omega
theorem zBp {c : Config} (g : zaC c) {k : Nat} (hk : k <= nP c) : (rC c k).length <= 400 := by
 have := g.few.parts
 have h1 := zvm g (Nat.le_refl (nC c))
 have h2 := zqe c k
 unfold nP at hk
 rw [rC, List.length_append]; omega
section
variable {c : Config} (g : zaC c) (hk : 0 <= c.kernel /\ c.kernel < 1024)
noncomputable def F0 (c : Config) (i : Nat) : Option (List Bulkheadref15Piece) := zb7 c (.l0 (pAt c i : Int) (i : Int) ((rA c i).map mkR))
noncomputable def F4 (c : Config) (k : Nat) : Option (List Bulkheadref15Piece) := zb7 c (.l4 (cAt c k : Int) (k : Int) ((rB c k).map mkR))
noncomputable def F20 (c : Config) (i : Nat) : Option (List Bulkheadref15Piece) := zb7 c (.l20 (16 * tF c i : Nat) (i : Int) ((rC c i).map mkR))
include g hk
theorem zId : F0 c 0 = F4 c 0 := by
 have h := zz (n := nP c) (f := fun i (_ : Unit) => F0 c i) (S := fun _ => ()) (fun i hi => by
  have hp := zvj g hk (Nat.le_of_lt hi)
  have hl := zBo g (Nat.le_of_lt hi)
  have b1 : ∀ y : Bulkheadref15Piece, leB ((((rA c i).map mkR).length + [y].length) * 40) 140737488355328 = true := zdU (by rw [List.length_map]; omega) (by omega)
  have b2 : ∀ x y : Bulkheadref15Piece, leB ((((rA c i).map mkR ++ [x]).length + [y].length) * 40) 140737488355328 = true := fun x => zdU (by rw [List.length_append, List.length_map]; simp; omega) (by omega)
  have b3 : ∀ w x y : Bulkheadref15Piece, leB (((((rA c i).map mkR ++ [w]) ++ [x]).length + [y].length) * 40) 140737488355328 = true := fun w x => zdU (by rw [List.length_append, List.length_append, List.length_map]; simp; omega) (by omega)
  have e1 : i64.wrap ((pAt c i : Int) + 2) = ((pAt c i + 2 : Nat) : Int) := zr _ _ (by omega) (by omega)
  have e2 : i64.wrap (((pAt c i + 2 : Nat) : Int) + 17) = ((pAt c i + 19 : Nat) : Int) := zr _ _ (by omega) (by omega)
  have e3 : i64.wrap ((pAt c i : Int) + 24) = ((pAt c (i + 1) : Nat) : Int) := zr _ _ (by unfold pAt; omega) (by unfold pAt at hp ⊢; omega)
  unfold F0
  rw [zaE]
  simp only [zbo, show decide ((i : Int) < (c.partitions.length : Int)) = true from zR hi, cnT, b1, b2, b3, e1, e2, e3, zf i (show i < 4611686018427387904 by have := g.few.parts; unfold nP at hi; omega)]
  have : (rA c (i + 1)).map mkR = (((rA c i).map mkR ++ [⟨(pAt c i : Int), 2, ⟨3, (i : Int), 0⟩⟩]) ++ [⟨((pAt c i + 2 : Nat) : Int), 17, ⟨4, (i : Int), 0⟩⟩]) ++ [⟨((pAt c i + 19 : Nat) : Int), 5, ⟨5, (i : Int), 0⟩⟩] := by
   rw [show rA c (i + 1) = rA c i ++ zh6 c i by unfold rA; rw [zbS, List.append_assoc]]
   rw [List.map_append, List.append_assoc, List.append_assoc]; rfl
  rw [this])
 refine Eq.trans h ?_
 unfold F0
 rw [zaE]
 have hf : decide ((nP c : Int) < (c.partitions.length : Int)) = false := zS (Nat.le_refl _)
 simp only [zbo, hf, cnF]
 unfold F4
 rw [show rB c 0 = rA c (nP c) by unfold rB; rw [zcV, List.append_nil]]
 rfl
noncomputable def F8 (c : Config) (k q : Nat) : Option (List Bulkheadref15Piece) := zb7 c (.l8 ((dAt c k + (zc2 c (zax c (k : Int)) q).length * prt (Ch c k) : Nat) : Int) (k : Int) (k : Int) (q : Int) ((rB c k ++ zfJ c k ++ zay (prt (Ch c k)) (dAt c k) (zc2 c (zax c (k : Int)) q)).map mkR) (Ch c k).kind (Ch c k).words (Ch c k).depth)
noncomputable def F12 (c : Config) (k q i : Nat) (l : List LayoutEnd) : Option (List Bulkheadref15Piece) := zb7 c (.l12 ((dAt c k + l.length * prt (Ch c k) : Nat) : Int) (k : Int) (q : Int) (k : Int) (q : Int) (zL c q) (i : Int) ((rB c k ++ zfJ c k ++ zay (prt (Ch c k)) (dAt c k) l).map mkR) (Ch c k).kind (Ch c k).words (Ch c k).depth)
theorem zzC {k q i : Nat} (hkk : k < nC c) (hq : q < nP c) (hi : i < zL c q) {l : List LayoutEnd} (hl : l.length <= 64) : F12 c k q i l = F12 c k q (i + 1) (l ++ cond (zax c (k : Int) q i) [⟨(q : Int), (i : Int)⟩] []) := by
 obtain ⟨o, _⟩ := g.chan k hkk
 have hpt := zBi o
 have hpl := zqF o
 have hst := zj7 o
 have hca := ziI g hk (Nat.le_of_lt hkk)
 have hrl := zvm g (Nat.le_of_lt hkk)
 have hn := g.few.ports q hq
 have hml := Nat.mul_le_mul hl hpl.2
 have hd : dAt c k <= 40000 := by unfold dAt; omega
 have b1 : ∀ y : Bulkheadref15Piece, leB ((((rB c k ++ zfJ c k ++ zay (prt (Ch c k)) (dAt c k) l).map mkR).length + [y].length) * 40) 140737488355328 = true := zdU (by rw [List.length_map, List.length_append, List.length_append, zfZ]; simp [zfJ]; omega) (by omega)
 have e61 : ∀ (a : Int) (xs : List Bulkheadref15Piece), zb7 c (.l61 a (k : Int) (q : Int) (k : Int) (q : Int) (zL c q) (i : Int) xs (Ch c k).kind (Ch c k).words (Ch c k).depth) = zb7 c (.l12 a (k : Int) (q : Int) (k : Int) (q : Int) (zL c q) ((i + 1 : Nat) : Int) xs (Ch c k).kind (Ch c k).words (Ch c k).depth) := fun a xs => by
  rw [zaE]
  simp only [zbo, zf i (by omega)]
 have e1 : i64.wrap (((dAt c k + l.length * prt (Ch c k) : Nat) : Int) + (prt (Ch c k) : Int)) = ((dAt c k + (l.length + 1) * prt (Ch c k) : Nat) : Int) := zr _ _ (by rw [Nat.add_mul]; omega) (by rw [Nat.add_mul]; omega)
 have hi' : i < (za c.partitions q).ports.length := hi
 have hpt' : zvr (⟨(Ch c k).kind, (Ch c k).words, (Ch c k).depth⟩ : Channel) = (prt (Ch c k) : Int) := hpt
 unfold F12
 rw [zaE]
 simp only [zbo, tnC, zR hi, zh hi', zh (show q < c.partitions.length from hq), cnT, b1, hpt', e1, e61]
 unfold zax Pt P
 cases (zaI (za c.partitions q).ports i).channel == (k : Int) <;> cases (zaI (za c.partitions q).ports i).source
 . simp only [cnF, Bool.false_and, List.append_nil]
 . simp only [cnF, Bool.false_and, List.append_nil]
 . simp only [cnT, cnF, Bool.true_and, Bool.not_false]
   rw [zfY, List.length_append, List.length_singleton, ← List.append_assoc, List.map_append (l₂ := [_])]
   rfl
 . simp only [cnT, cnF, Bool.true_and, Bool.not_true, List.append_nil]
theorem zIg : F4 c 0 = zb7 c (.l16 (cAt c (nC c) : Int) ((rB c (nC c)).map mkR)) := by
 have h := zz (n := nC c) (f := fun k (_ : Unit) => F4 c k) (S := fun _ => ()) (fun k hkk => by
  obtain ⟨o, _⟩ := g.chan k hkk
  have hst := zj7 o
  have hsr := zGv o
  have hca := ziI g hk (Nat.le_of_lt hkk)
  have hrl := zvm g (Nat.le_of_lt hkk)
  have b1 : ∀ y : Bulkheadref15Piece, leB ((((rB c k).map mkR).length + [y].length) * 40) 140737488355328 = true := zdU (by rw [List.length_map]; omega) (by omega)
  have b2 : ∀ x y : Bulkheadref15Piece, leB ((((rB c k).map mkR ++ [x]).length + [y].length) * 40) 140737488355328 = true := fun x => zdU (by rw [List.length_append, List.length_map]; simp; omega) (by omega)
  have e1 : i64.wrap ((cAt c k : Int) + 2) = ((cAt c k + 2 : Nat) : Int) := zr _ _ (by omega) (by omega)
  have e2 : i64.wrap (2 + (stg (Ch c k) : Int)) = ((2 + stg (Ch c k) : Nat) : Int) := zr _ _ (by omega) (by omega)
  have e3 : i64.wrap ((cAt c k : Int) + ((2 + stg (Ch c k) : Nat) : Int)) = ((dAt c k : Nat) : Int) := zr _ _ (by unfold dAt; omega) (by unfold dAt; omega)
  have hsr' : zvs (zo c.channels k) = (stg (Ch c k) : Int) := hsr
  have hk16 := g.chans
  unfold nC at hkk
  have s1 : F4 c k = F8 c k 0 := by
   unfold F4 F8
   rw [zaE]
   simp only [zbo, tnC, zR hkk, zh hkk, cnT, b1, b2, hsr', e1, e2, e3]
   rw [zc2, zay, List.append_nil, List.length_nil, Nat.zero_mul, Nat.add_zero, List.map_append, List.append_assoc]
   rfl
  have s2 := zz (n := nP c) (f := fun q (_ : Unit) => F8 c k q) (S := fun _ => ()) (fun q hq => by
   have hq8 := g.few.parts
   have hq' : q < c.partitions.length := hq
   have dle : ∀ i, i <= zL c q -> (zc2 c (zax c (k : Int)) q ++ zcO (zax c (k : Int)) q i).length <= 64 := fun i hi => by
    rw [List.length_append, zdj, zem]
    have hm : cnt (zax c (k : Int) q) i <= i := zbM _ _
    have h2 := znY (g := fun p => cnt (zax c (k : Int) p) (zL c p)) (b := 8) (n := q) fun i hi => Nat.le_trans (zbM _ _) (g.few.ports i (by omega))
    have := g.few.ports q hq'
    omega
   have s3 := zz (n := zL c q) (f := fun i (l : List LayoutEnd) => F12 c k q i l) (S := fun i => zc2 c (zax c (k : Int)) q ++ zcO (zax c (k : Int)) q i) (fun i hi => by
    rw [zzC g hk hkk hq hi (dle i (Nat.le_of_lt hi)), ze2, List.append_assoc])
   have s4 : F8 c k q = F12 c k q 0 (zc2 c (zax c (k : Int)) q) := by
    unfold F8 F12
    rw [zaE]
    simp only [zbo, tnC, zR hq', zh hq', cnT]
    rfl
   rw [s4]
   rw [show zcO (zax c (k : Int)) q 0 = [] from rfl, List.append_nil] at s3
   rw [s3]
   unfold F8 F12
   rw [zaE]
   have hf : decide ((zL c q : Int) < (zL c q : Int)) = false := zS (Nat.le_refl _)
   simp only [zbo, hf, cnF, zf q (show q < 4611686018427387904 by omega)]
   rfl)
  rw [s1, s2]
  unfold F8 F4
  rw [zaE]
  have hf : decide ((nP c : Int) < (c.partitions.length : Int)) = false := zS (Nat.le_refl _)
  simp only [zbo, hf, cnF, zf k (show k < 4611686018427387904 by omega)]
  rw [show rB c (k + 1) = rB c k ++ zfJ c k ++ zay (prt (Ch c k)) (dAt c k) (dl c k) by unfold rB; rw [zcV, List.append_assoc, List.append_assoc, List.append_assoc]]
  rfl)
 refine Eq.trans h ?_
 unfold F4
 rw [zaE]
 have hf : decide ((nC c : Int) < (c.channels.length : Int)) = false := zS (Nat.le_refl _)
 simp only [zbo, hf, cnF]
end
theorem zwp (c : Config) (xs : List Bulkheadref15Piece) : ∀ m a : Nat, 16 * ((a + 15) / 16) = a + m -> a + m < 100000 -> zb7 c (.l16 (a : Int) xs) = zb7 c (.l20 ((16 * ((a + 15) / 16) : Nat) : Int) 0 xs)
 | 0, a, h, ha => by
  have hr : a % 16 = 0 := by omega
  rw [h, Nat.add_zero]
  rw [zaE]
  simp only [zbo, zwo, hr]
  rfl
 | m + 1, a, h, ha => by
  have hr : ((((a % 16 : Nat) : Int)) == 0) = false := beq_eq_false_iff_ne.2 (by omega)
  have hd : (a + 1 + 15) / 16 = (a + 15) / 16 := by omega
  have ih := zwp c xs m (a + 1) (by rw [hd]; omega) (by omega)
  rw [hd] at ih
  rw [← ih, zaE]
  simp only [zbo, zwo, hr, Bool.not_false, cnT, zf a (by omega)]
section
variable {c : Config} (g : zaC c) (hk : 0 <= c.kernel /\ c.kernel < 1024)
include g hk
theorem zCU : F20 c 0 = some ((zaJ c).map mkR) := by
 have h := zz (n := nP c) (f := fun i (_ : Unit) => F20 c i) (S := fun _ => ()) (fun i hi => by
  have hi' : i < c.partitions.length := hi
  have hP := g.few.parts
  have hrl := zBp g (Nat.le_of_lt hi)
  have htf := zqd g hk (Nat.le_of_lt hi)
  have hnt := zle (P c i)
  have ht : ∀ t : Int, zus (P c i) t = zus (P c i) t := fun _ => rfl
  have s1 : F20 c i = zb7 c (.l24 (16 * tF c i : Nat) (i : Int) 1 (i : Int) 0 ((rC c i).map mkR)) := by
   unfold F20
   rw [zaE]
   simp only [zbo, zR hi', cnT]
  have s2 := zz (n := 16) (f := fun t (n : Nat) => zb7 c (.l24 (16 * tF c i : Nat) (i : Int) (n : Int) (i : Int) (t : Int) ((rC c i).map mkR))) (S := fun t => 1 + cnt (zX (P c i)) t) (fun t ht16 => by
   have hl := zbM (zX (P c i)) t
   obtain ⟨k1, k2⟩ := zk (zzt (g.nregs i hi').2 (fun k hkk => (g.regs i k hi' hkk).ok) t)
   have k1' : zGm (za c.partitions i) (t : Int) = zX (P c i) t := k1
   have k2' : zxf (za c.partitions i) (t : Int) = true := k2
   have e89 : ∀ n : Int, zb7 c (.l89 (16 * tF c i : Nat) (i : Int) n (i : Int) (t : Int) ((rC c i).map mkR)) = zb7 c (.l24 (16 * tF c i : Nat) (i : Int) n (i : Int) ((t + 1 : Nat) : Int) ((rC c i).map mkR)) := fun n => by
    rw [zaE]
    simp only [zbo, zf t (show t < 4611686018427387904 by omega)]
   rw [zaE]
   simp only [zbo, show decide ((t : Int) < 16) = true from decide_eq_true (by omega), zh hi', tnC, cnT, k1', k2', e89, zf (1 + cnt (zX (P c i)) t) (show 1 + cnt (zX (P c i)) t < 4611686018427387904 by omega)]
   rw [zcM]
   cases zX (P c i) t <;> rfl)
  have s3 : zb7 c (.l24 (16 * tF c i : Nat) (i : Int) ((1 + zd2 (P c i) : Nat) : Int) (i : Int) ((16 : Nat) : Int) ((rC c i).map mkR)) = zb7 c (.l28 (16 * tF c i : Nat) (i : Int) (i : Int) ((1 + zd2 (P c i) : Nat) : Int) 0 ((rC c i).map mkR)) := by
   rw [zaE]
   simp only [zbo, show decide (((16 : Nat) : Int) < 16) = false from rfl, cnF]
  have s4 := zz (n := 1 + zd2 (P c i)) (f := fun j (_ : Unit) => zb7 c (.l28 (16 * (tF c i + j) : Nat) (i : Int) (i : Int) ((1 + zd2 (P c i) : Nat) : Int) (j : Int) ((rC c i ++ rep (tF c i) i j).map mkR))) (S := fun _ => ()) (fun j hj => by
   have b1 : ∀ y : Bulkheadref15Piece, leB ((((rC c i ++ rep (tF c i) i j).map mkR).length + [y].length) * 40) 140737488355328 = true := zdU (by rw [List.length_map, List.length_append, zqG]; omega) (by omega)
   have e1 : i64.wrap (((16 * (tF c i + j) : Nat) : Int) + 16) = ((16 * (tF c i + (j + 1)) : Nat) : Int) := zr _ _ (by omega) (by omega)
   rw [zaE]
   simp only [zbo, zR hj, cnT, b1, e1, zf j (show j < 4611686018427387904 by omega)]
   rw [rep, ← List.append_assoc, List.map_append (l₂ := [_])]
   rfl)
  rw [s1]
  refine Eq.trans s2 (Eq.trans s3 (Eq.trans (Eq.trans ?_ s4) ?_))
  . rw [rep, List.append_nil]; rfl
  . rw [zaE]
    simp only [zbo, zS (Nat.le_refl _), cnF, zf i (show i < 4611686018427387904 by omega)]
    unfold F20
    rw [show rC c (i + 1) = rC c i ++ rep (tF c i) i (1 + zd2 (P c i)) by unfold rC; rw [zeG, List.append_assoc], tF])
 refine Eq.trans h ?_
 unfold F20
 rw [zaE]
 have hf : decide ((nP c : Int) < (c.partitions.length : Int)) = false := zS (Nat.le_refl _)
 simp only [zbo, hf, cnF, id]
 rfl
theorem zh8 : zwR c = some ((zaJ c).map mkR) := by
 have hP := g.few.parts
 have e0 : i64.wrap (16 * c.kernel) = ((16 * K0 c : Nat) : Int) := zr _ _ (by unfold K0; omega) (by unfold K0; omega)
 have e1 : i64.wrap (((16 * K0 c : Nat) : Int) + 2) = ((pAt c 0 : Nat) : Int) := zr _ _ (by unfold pAt; omega) (by unfold pAt K0; omega)
 have hc := ziI g hk (Nat.le_refl (nC c))
 unfold zwR zow
 rw [e0, e1, zdU (by simp) (by omega), cnT]
 refine Eq.trans (show _ = F0 c 0 from ?_) ?_
 . unfold F0
   rw [show rA c 0 = bar c by unfold rA; rw [zbS, List.append_nil]]
   rfl
 . rw [zId g hk, zIg g hk, zwp c _ (16 * ((cAt c (nC c) + 15) / 16) - cAt c (nC c)) (cAt c (nC c)) (by omega) (by omega)]
   rw [← zCU g hk]
   unfold F20
   rw [show rC c 0 = rB c (nC c) by unfold rC; rw [zeG, List.append_nil], tF]
   rfl
end
def zbs (s : Nat) : Nat -> List LayoutEnd -> List DestPlace
 | _, [] => []
 | a, e :: l => ⟨e.partition, e.port, (a : Int)⟩ :: zbs s (a + s) l
theorem zfP (s : Nat) : ∀ (a : Nat) (l : List LayoutEnd) (e : LayoutEnd), zbs s a (l ++ [e]) = zbs s a l ++ [⟨e.partition, e.port, ((a + l.length * s : Nat) : Int)⟩]
 | a, [], e => by simp [zbs]
 | a, x :: l, e => by
  rw [List.cons_append, zbs, zbs, zfP s (a + s) l e, List.length_cons, List.cons_append]
  rw [show a + s + l.length * s = a + (l.length + 1) * s by rw [Nat.add_mul]; omega]
theorem zfQ (s : Nat) : ∀ (a : Nat) (l : List LayoutEnd), (zbs s a l).length = l.length
 | _, [] => rfl
 | a, _ :: l => by rw [zbs, List.length_cons, List.length_cons, zfQ s (a + s) l]
noncomputable def base (c : Config) (i : Nat) : PartitionPlace := ⟨(pAt c i : Int), ((pAt c i + 2 : Nat) : Int), ((pAt c i + 19 : Nat) : Int), 0, []⟩
def zuF (f j : Nat) : List Int := (List.range j).map fun t : Nat => ((f + 1 + t : Nat) : Int)
noncomputable def full (c : Config) (i : Nat) : PartitionPlace := ⟨(pAt c i : Int), ((pAt c i + 2 : Nat) : Int), ((pAt c i + 19 : Nat) : Int), (tF c i : Int), zuF (tF c i) (zd2 (P c i))⟩
noncomputable def zuy (c : Config) (k : Nat) : LayoutEnd := zF (zvK c (k : Int)) 0
noncomputable def zyC (c : Config) (k : Nat) : ChannelPlace := ⟨(cAt c k : Int), ((cAt c k + 2 : Nat) : Int), (zuy c k).partition, (zuy c k).port, zbs (prt (Ch c k)) (dAt c k) (dl c k)⟩
noncomputable def plA (c : Config) (n : Nat) : List PartitionPlace := (List.range n).map (base c)
noncomputable def plT (c : Config) (i : Nat) : List PartitionPlace := (List.range (nP c)).map fun q => if q < i then full c q else base c q
noncomputable def chL (c : Config) (n : Nat) : List ChannelPlace := (List.range n).map (zyC c)
noncomputable def lay (c : Config) : Layout := ⟨((16 * K0 c : Nat) : Int), plT c (nP c), chL c (nC c), (tF c (nP c) : Int)⟩
theorem zfW (n h : Int) : zbl n h = (h, i64.wrap (h + n)) := rfl
theorem zsc (n : Int) : zk4 n = n := rfl
theorem zFN (c : Config) (i : Nat) : (plT c i).length = nP c := by simp [plT]
theorem zIB {xs : List PartitionPlace} {i : Nat} {y : PartitionPlace} (h : i < xs.length) : zaa (List.set xs i y) i = y := by
 simp [zaa, List.getD, List.getElem?_set, h]
theorem zL6 {c : Config} {i j : Nat} (hj : j < nP c) : zaa (plT c i) j = if j < i then full c j else base c j := by
 simp [zaa, List.getD, plT, hj]
theorem zFO {c : Config} {i : Nat} (hi : i < nP c) : List.set (plT c i) i (full c i) = plT c (i + 1) := by
 apply List.ext_getElem
 . simp [plT]
 . intro j h1 h2
   simp only [plT, List.getElem_set, List.getElem_map, List.getElem_range]
   by_cases hj : i = j
   . subst hj; rw [if_pos rfl, if_pos (by omega)]
   . rw [if_neg hj]
     by_cases h3 : j < i
     . rw [if_pos h3, if_pos (by omega)]
     . rw [if_neg h3, if_neg (by omega)]
section
variable {c : Config} (g : zaC c) (hk : 0 <= c.kernel /\ c.kernel < 1024)
include g hk
theorem zIh : zb8 c (.l0 0 (pAt c 0 : Int) []) = zb8 c (.l4 0 (cAt c 0 : Int) (plA c (nP c)) []) := by
 have h := zz (n := nP c) (f := fun i (_ : Unit) => zb8 c (.l0 (i : Int) (pAt c i : Int) (plA c i))) (S := fun _ => ()) (fun i hi => by
  have hi' : i < c.partitions.length := hi
  have hP := g.few.parts
  have hp := zvj g hk (Nat.le_of_lt hi)
  have b1 : ∀ y : PartitionPlace, leB (((plA c i).length + [y].length) * 56) 140737488355328 = true := zdU (by simp [plA]; omega) (by omega)
  have e1 : i64.wrap ((pAt c i : Int) + 2) = ((pAt c i + 2 : Nat) : Int) := zr _ _ (by omega) (by omega)
  have e2 : i64.wrap (((pAt c i + 2 : Nat) : Int) + 17) = ((pAt c i + 19 : Nat) : Int) := zr _ _ (by omega) (by omega)
  have e3 : i64.wrap (((pAt c i + 19 : Nat) : Int) + 5) = ((pAt c (i + 1) : Nat) : Int) := zr _ _ (by unfold pAt; omega) (by unfold pAt at hp ⊢; omega)
  rw [zbR]
  simp only [zcL, zR hi', cnT, zfW, e1, e2, e3, b1, zf i (show i < 4611686018427387904 by omega)]
  rw [show plA c (i + 1) = plA c i ++ [base c i] from zbi _ _]
  rfl)
 refine Eq.trans h ?_
 rw [zbR]
 have hf : decide ((nP c : Int) < (c.partitions.length : Int)) = false := zS (Nat.le_refl _)
 simp only [zcL, hf, cnF]
 rfl
theorem zCW {k : Nat} (hkk : k < nC c) : zb8 c (.l4 (k : Int) (cAt c k : Int) (plA c (nP c)) (chL c k)) = zb8 c (.l4 ((k + 1 : Nat) : Int) (cAt c (k + 1) : Int) (plA c (nP c)) (chL c (k + 1))) := by
 have hkk' : k < c.channels.length := hkk
 have hC := g.chans
 obtain ⟨o, a1, _⟩ := g.chan k hkk'
 have hst := zj7 o
 have hpl := zqF o
 have hca := ziI g hk (Nat.le_of_lt hkk)
 obtain ⟨k1, k2⟩ := zk (zwb g.few (k : Int))
 have k1' : zud c (k : Int) = (zvK c (k : Int), dl c k) := k1
 have k2' : zqa c (k : Int) = true := k2
 have hs1 : (zvK c (k : Int)).length = 1 := by rw [zuz]; exact a1
 have hr : zU 0 (zvK c (k : Int)).length = true := by rw [hs1]; rfl
 have e1 : i64.wrap ((cAt c k : Int) + 2) = ((cAt c k + 2 : Nat) : Int) := zr _ _ (by omega) (by omega)
 have e2 : i64.wrap (((cAt c k + 2 : Nat) : Int) + (stg (Ch c k) : Int)) = ((dAt c k : Nat) : Int) := zr _ _ (by unfold dAt; omega) (by unfold dAt; omega)
 have hsr' : zoe (zo c.channels k) = (stg (Ch c k) : Int) := zsb o
 have hd4 := (zvY g hkk).2
 have hd : dAt c k <= 40000 := by unfold dAt; omega
 have s1 : zb8 c (.l4 (k : Int) (cAt c k : Int) (plA c (nP c)) (chL c k)) = zb8 c (.l8 (k : Int) (dl c k).length 0 (dAt c k : Int) (plA c (nP c)) (chL c k) (Ch c k).kind (Ch c k).words (Ch c k).depth (cAt c k : Int) ((cAt c k + 2 : Nat) : Int) (zuy c k).partition (zuy c k).port [] (dl c k)) := by
  rw [zbR]
  simp only [zcL, zR hkk', zh hkk', tnC, cnT, zfW, k1', k2', hr, hsr', e1, e2]
  rfl
 have s2 := zz (n := (dl c k).length) (f := fun j (_ : Unit) => zb8 c (.l8 (k : Int) (dl c k).length (j : Int) ((dAt c k + j * prt (Ch c k) : Nat) : Int) (plA c (nP c)) (chL c k) (Ch c k).kind (Ch c k).words (Ch c k).depth (cAt c k : Int) ((cAt c k + 2 : Nat) : Int) (zuy c k).partition (zuy c k).port (zbs (prt (Ch c k)) (dAt c k) ((dl c k).take j)) (dl c k))) (S := fun _ => ()) (fun j hj => by
  have b1 : ∀ y : DestPlace, leB (((zbs (prt (Ch c k)) (dAt c k) ((dl c k).take j)).length + [y].length) * 24) 140737488355328 = true := zdU (by rw [zfQ, List.length_take]; omega) (by omega)
  have hm := Nat.mul_le_mul (show j <= 4 by omega) hpl.2
  have e3 : i64.wrap (((dAt c k + j * prt (Ch c k) : Nat) : Int) + (prt (Ch c k) : Int)) = ((dAt c k + (j + 1) * prt (Ch c k) : Nat) : Int) := zr _ _ (by rw [Nat.add_mul]; omega) (by rw [Nat.add_mul]; omega)
  have hpr' : zzi (⟨(Ch c k).kind, (Ch c k).words, (Ch c k).depth⟩ : Channel) = (prt (Ch c k) : Int) := zL7 o
  rw [zbR]
  simp only [zcL, zR hj, zh hj, tnC, cnT, zfW, b1, hpr', e3, zf j (show j < 4611686018427387904 by omega)]
  have ht : (dl c k).take (j + 1) = (dl c k).take j ++ [zF (dl c k) j] := by
   rw [List.take_add_one]; simp [zF, List.getD, hj]
  rw [ht, zfP, List.length_take, Nat.min_eq_left (Nat.le_of_lt hj)])
 have s3 : zb8 c (.l8 (k : Int) (dl c k).length ((dl c k).length : Int) ((dAt c k + (dl c k).length * prt (Ch c k) : Nat) : Int) (plA c (nP c)) (chL c k) (Ch c k).kind (Ch c k).words (Ch c k).depth (cAt c k : Int) ((cAt c k + 2 : Nat) : Int) (zuy c k).partition (zuy c k).port (zbs (prt (Ch c k)) (dAt c k) (dl c k)) (dl c k)) = zb8 c (.l4 ((k + 1 : Nat) : Int) (cAt c (k + 1) : Int) (plA c (nP c)) (chL c (k + 1))) := by
  have b1 : ∀ y : ChannelPlace, leB (((chL c k).length + [y].length) * 56) 140737488355328 = true := zdU (by simp [chL]; omega) (by omega)
  rw [zbR]
  simp only [zcL, zS (Nat.le_refl _), cnF, b1, cnT, zf k (show k < 4611686018427387904 by omega)]
  rw [show chL c (k + 1) = chL c k ++ [zyC c k] from zbi _ _]
  rfl
 rw [List.take_length] at s2
 exact s1.trans ((show _ = _ from by rw [Nat.zero_mul, Nat.add_zero, List.take_zero] at s2; exact s2).trans s3)
theorem zzD {i : Nat} (hi : i < nP c) : zb8 c (.l12 (i : Int) (plT c i) (chL c (nC c)) (tF c i : Int)) = zb8 c (.l12 ((i + 1 : Nat) : Int) (plT c (i + 1)) (chL c (nC c)) (tF c (i + 1) : Int)) := by
 have hi' : i < c.partitions.length := hi
 have hP := g.few.parts
 have htf := zqd g hk (Nat.le_of_lt hi)
 have hnt := zle (P c i)
 obtain ⟨k1, k2⟩ := zk (zBX (g.nregs i hi').2 (fun k hkk => (g.regs i k hi' hkk).ok))
 have k1' : zGo (za c.partitions i) = (zd2 (P c i) : Int) := k1
 have k2' : zxi (za c.partitions i) = true := k2
 have hl : i < (plT c i).length := by rw [zFN]; exact hi
 have hb : zaa (plT c i) i = base c i := by rw [zL6 hi, if_neg (Nat.lt_irrefl _)]
 have s1 : zb8 c (.l12 (i : Int) (plT c i) (chL c (nC c)) (tF c i : Int)) = zb8 c (.l16 (i : Int) (i : Int) (zd2 (P c i) : Int) 0 (List.set (plT c i) i ⟨(pAt c i : Int), ((pAt c i + 2 : Nat) : Int), ((pAt c i + 19 : Nat) : Int), (tF c i : Int), zuF (tF c i) 0⟩) (chL c (nC c)) ((tF c i + 1 : Nat) : Int)) := by
  have e1 : i64.wrap ((tF c i : Int) + 1) = ((tF c i + 1 : Nat) : Int) := zr _ _ (by omega) (by omega)
  rw [zbR]
  simp only [zcL, zR hi', zh hi', zh hl, tnC, cnT, zfW, k1', k2', hb, e1]
  rfl
 have s2 := zz (n := zd2 (P c i)) (f := fun j (_ : Unit) => zb8 c (.l16 (i : Int) (i : Int) (zd2 (P c i) : Int) (j : Int) (List.set (plT c i) i ⟨(pAt c i : Int), ((pAt c i + 2 : Nat) : Int), ((pAt c i + 19 : Nat) : Int), (tF c i : Int), zuF (tF c i) j⟩) (chL c (nC c)) ((tF c i + 1 + j : Nat) : Int))) (S := fun _ => ()) (fun j hj => by
  have hl2 : ∀ y, i < (List.set (plT c i) i y).length := fun y => by rw [List.length_set]; exact hl
  have e1 : i64.wrap (((tF c i + 1 + j : Nat) : Int) + 1) = ((tF c i + 1 + (j + 1) : Nat) : Int) := zr _ _ (by omega) (by omega)
  have b1 : ∀ y : Int, leB (((zuF (tF c i) j).length + [y].length) * 8) 140737488355328 = true := zdU (by simp [zuF]; omega) (by omega)
  rw [zbR]
  simp only [zcL, zR hj, zh (hl2 _), tnC, cnT, zfW, zIB hl, b1, e1, List.set_set, Nat.beq_refl, zf j (show j < 4611686018427387904 by omega)]
  rw [show zuF (tF c i) (j + 1) = zuF (tF c i) j ++ [((tF c i + 1 + j : Nat) : Int)] from zbi _ _])
 rw [s1]
 refine Eq.trans s2 ?_
 rw [zbR]
 simp only [zcL, zS (Nat.le_refl _), cnF, zf i (show i < 4611686018427387904 by omega)]
 rw [show (⟨(pAt c i : Int), ((pAt c i + 2 : Nat) : Int), ((pAt c i + 19 : Nat) : Int), (tF c i : Int), zuF (tF c i) (zd2 (P c i))⟩ : PartitionPlace) = full c i from rfl, zFO hi, tF, show tF c i + 1 + zd2 (P c i) = tF c i + (1 + zd2 (P c i)) by omega]
theorem zH5 : zwT c = some (lay c, 0) := by
 obtain ⟨k1, k2⟩ := zk (zNM g hk)
 have k1' : zGn c = true := k1
 have k2' : zxh c = true := k2
 have hca := ziI g hk (Nat.le_refl (nC c))
 have e0 : i64.wrap (c.kernel * 16) = ((16 * K0 c : Nat) : Int) := zr _ _ (by unfold K0; omega) (by unfold K0; omega)
 have e1 : i64.wrap (((16 * K0 c : Nat) : Int) + 2) = ((pAt c 0 : Nat) : Int) := zr _ _ (by unfold pAt; omega) (by unfold pAt K0; omega)
 have e2 : i64.wrap ((cAt c (nC c) : Int) + 16) = ((cAt c (nC c) + 16 : Nat) : Int) := zr _ _ (by omega) (by omega)
 have e3 : i64.wrap (((cAt c (nC c) + 16 : Nat) : Int) - 1) = ((cAt c (nC c) + 15 : Nat) : Int) := zr _ _ (by omega) (by omega)
 unfold zwT zoz
 rw [k1', k2', cnT, Bool.not_true, cnF, zsc, zfW, e0, e1]
 refine Eq.trans (zIh g hk) ?_
 refine Eq.trans (zz (n := nC c) (f := fun k (_ : Unit) => zb8 c (.l4 (k : Int) (cAt c k : Int) (plA c (nP c)) (chL c k))) (S := fun _ => ()) fun k hkk => zCW g hk hkk) ?_
 rw [zbR]
 have hf : decide ((nC c : Int) < (c.channels.length : Int)) = false := zS (Nat.le_refl _)
 simp only [zcL, hf, cnF, zfW, zsc, e2, e3, zfc _ (show cAt c (nC c) + 15 < 4611686018427387904 by omega)]
 have ep : plA c (nP c) = plT c 0 := by
  unfold plA plT
  apply List.map_congr_left
  intro q _
  rw [if_neg (by omega)]
 rw [ep]
 refine Eq.trans (zz (n := nP c) (f := fun i (_ : Unit) => zb8 c (.l12 (i : Int) (plT c i) (chL c (nC c)) (tF c i : Int))) (S := fun _ => ()) fun i hi => zzD g hk hi) ?_
 rw [zbR]
 have hf : decide ((nP c : Int) < (c.partitions.length : Int)) = false := zS (Nat.le_refl _)
 simp only [zcL, hf, cnF, zfW, zsc, e0, id]
 rfl
end
def Laid : Nat -> List Pc -> Nat -> Prop
 | a, [], b => a <= b
 | a, x :: l, b => a <= x.1 /\ Laid (x.1 + x.2.1) l b
theorem Laid.mono {a a' : Nat} {l : List Pc} {b : Nat} (h : Laid a l b) (ha : a' <= a) : Laid a' l b := by
 cases l with
 | nil => exact Nat.le_trans ha h
 | cons x l => exact ⟨Nat.le_trans ha h.1, h.2⟩
theorem Laid.append : ∀ {l l' : List Pc} {a m b : Nat}, Laid a l m -> Laid m l' b -> Laid a (l ++ l') b
 | [], _, _, _, _, h, h' => h'.mono h
 | _ :: _, _, _, _, _, h, h' => ⟨h.1, Laid.append h.2 h'⟩
theorem Laid.in_ : ∀ {l : List Pc} {a b : Nat}, Laid a l b -> ∀ x ∈ l, a <= x.1 /\ x.1 + x.2.1 <= b
 | [], _, _, _, _, hx => by cases hx
 | y :: l, a, b, h, x, hx => by
  have hb : ∀ {l : List Pc} {a b : Nat}, Laid a l b -> a <= b := by
   intro l
   induction l with
   | nil => intro a b h; exact h
   | cons y l ih => intro a b h; have := ih h.2; have := h.1; omega
  rcases List.mem_cons.1 hx with rfl | hx
  . exact ⟨h.1, hb h.2⟩
  . obtain ⟨h1, h2⟩ := Laid.in_ h.2 x hx
    have := h.1
    exact ⟨by omega, h2⟩
def inP (x : Pc) (a : Nat) : Bool := decide (x.1 <= a) && decide (a < x.1 + x.2.1)
theorem inP_iff {x : Pc} {a : Nat} : inP x a = true ↔ x.1 <= a /\ a < x.1 + x.2.1 := by simp [inP]
theorem Laid.one : ∀ {l : List Pc} {a b : Nat}, Laid a l b -> ∀ {x y : Pc} {n : Nat}, x ∈ l -> y ∈ l -> inP x n = true -> inP y n = true -> x = y
 | [], _, _, _, _, _, _, hx, _, _, _ => by cases hx
 | z :: l, a, b, h, x, y, n, hx, hy, h1, h2 => by
  have i1 := inP_iff.1 h1
  have i2 := inP_iff.1 h2
  rcases List.mem_cons.1 hx with rfl | hx'
  . rcases List.mem_cons.1 hy with rfl | hy'
    . rfl
    . have := (h.2.in_ y hy').1; omega
  . rcases List.mem_cons.1 hy with rfl | hy'
    . have := (h.2.in_ x hx').1; omega
    . exact Laid.one h.2 hx' hy' h1 h2
theorem zmy (s : Nat) : ∀ (l : List LayoutEnd) (a : Nat), Laid a (zay s a l) (a + l.length * s)
 | [], a => by simp [zay, Laid]
 | e :: l, a => by
  refine ⟨Nat.le_refl _, ?_⟩
  have := zmy s l (a + s)
  rw [List.length_cons, Nat.add_mul, Nat.one_mul, show a + (l.length * s + s) = a + s + l.length * s by omega]
  exact this
theorem zmx (c : Config) : ∀ n, Laid (pAt c 0) (zbS c n) (pAt c n)
 | 0 => Nat.le_refl _
 | n + 1 => by
  rw [zbS]
  refine (zmx c n).append ?_
  simp only [zh6, Laid, pAt]
  omega
theorem zmw (c : Config) : ∀ n, Laid (cAt c 0) (zcV c n) (cAt c n)
 | 0 => Nat.le_refl _
 | n + 1 => by
  rw [zcV]
  refine ((zmw c n).append (m := cAt c n) (b := dAt c n) ?_).append ?_
  . exact ⟨Nat.le_refl _, Nat.le_refl _, Nat.le_refl _⟩
  . exact zmy _ _ _
theorem ztJ (f i : Nat) : ∀ n, Laid (16 * f) (rep f i n) (16 * (f + n))
 | 0 => Nat.le_refl _
 | n + 1 => by
  rw [rep]
  refine (ztJ f i n).append ?_
  simp only [Laid]
  omega
theorem zoW (c : Config) : ∀ n, Laid (16 * tF c 0) (zeG c n) (16 * tF c n)
 | 0 => Nat.le_refl _
 | n + 1 => by
  rw [zeG, tF]
  exact (zoW c n).append (ztJ _ _ _)
theorem ztI (c : Config) : Laid (16 * K0 c) (zaJ c) (16 * tF c (nP c)) := by
 refine (((Laid.append (m := pAt c 0) ?_ (zmx c _)).append (zmw c _)).append ((zoW c _).mono ?_))
 . exact ⟨Nat.le_refl _, Nat.le_refl _⟩
 . show cAt c (nC c) <= 16 * ((cAt c (nC c) + 15) / 16)
   omega
inductive Is (c : Config) : Pc -> Prop
 | bar : Is c (16 * K0 c, 2, ⟨2, 0, 0⟩)
 | lock {i : Nat} (h : i < nP c) : Is c (pAt c i, 2, ⟨3, (i : Int), 0⟩)
 | save {i : Nat} (h : i < nP c) : Is c (pAt c i + 2, 17, ⟨4, (i : Int), 0⟩)
 | state {i : Nat} (h : i < nP c) : Is c (pAt c i + 19, 5, ⟨5, (i : Int), 0⟩)
 | chan {k : Nat} (h : k < nC c) : Is c (cAt c k, 2, ⟨6, (k : Int), 0⟩)
 | stage {k : Nat} (h : k < nC c) : Is c (cAt c k + 2, stg (Ch c k), ⟨7, (k : Int), 0⟩)
 | port {k : Nat} (h : k < nC c) {x : Pc} (hx : x ∈ zay (prt (Ch c k)) (dAt c k) (dl c k)) : Is c x
 | tab {i : Nat} (h : i < nP c) {x : Pc} (hx : x ∈ rep (tF c i) i (1 + zd2 (P c i))) : Is c x
theorem zo8 (c : Config) {x : Pc} : ∀ n, x ∈ zbS c n ↔ ∃ i, i < n /\ x ∈ zh6 c i
 | 0 => by simp [zbS]
 | n + 1 => by
  rw [zbS, List.mem_append, zo8 c n]
  constructor
  . rintro (⟨i, hi, h⟩ | h)
    . exact ⟨i, by omega, h⟩
    . exact ⟨n, by omega, h⟩
  . rintro ⟨i, hi, h⟩
    by_cases hin : i = n
    . subst hin; exact .inr h
    . exact .inl ⟨i, by omega, h⟩
theorem zoi (c : Config) {x : Pc} : ∀ n, x ∈ zcV c n ↔ ∃ k, k < n /\ (x ∈ zfJ c k ∨ x ∈ zay (prt (Ch c k)) (dAt c k) (dl c k))
 | 0 => by simp [zcV]
 | n + 1 => by
  rw [zcV, List.mem_append, List.mem_append, zoi c n]
  constructor
  . rintro ((⟨i, hi, h⟩ | h) | h)
    . exact ⟨i, by omega, h⟩
    . exact ⟨n, by omega, .inl h⟩
    . exact ⟨n, by omega, .inr h⟩
  . rintro ⟨i, hi, h⟩
    by_cases hin : i = n
    . subst hin
      rcases h with h | h
      . exact .inl (.inr h)
      . exact .inr h
    . exact .inl (.inl ⟨i, by omega, h⟩)
theorem zuG (c : Config) {x : Pc} : ∀ n, x ∈ zeG c n ↔ ∃ i, i < n /\ x ∈ rep (tF c i) i (1 + zd2 (P c i))
 | 0 => by simp [zeG]
 | n + 1 => by
  rw [zeG, List.mem_append, zuG c n]
  constructor
  . rintro (⟨i, hi, h⟩ | h)
    . exact ⟨i, by omega, h⟩
    . exact ⟨n, by omega, h⟩
  . rintro ⟨i, hi, h⟩
    by_cases hin : i = n
    . subst hin; exact .inr h
    . exact .inl ⟨i, by omega, h⟩
theorem ref_mem {c : Config} {x : Pc} : x ∈ zaJ c ↔ Is c x := by
 unfold zaJ
 rw [List.mem_append, List.mem_append, List.mem_append, zo8, zoi, zuG]
 constructor
 . rintro (((h | ⟨i, hi, h⟩) | ⟨k, hk, h | h⟩) | ⟨i, hi, h⟩)
   . rw [bar, List.mem_singleton] at h; subst h; exact .bar
   . simp only [zh6, List.mem_cons, List.not_mem_nil, or_false] at h
     rcases h with rfl | rfl | rfl
     . exact .lock hi
     . exact .save hi
     . exact .state hi
   . simp only [zfJ, List.mem_cons, List.not_mem_nil, or_false] at h
     rcases h with rfl | rfl
     . exact .chan hk
     . exact .stage hk
   . exact .port hk h
   . exact .tab hi h
 . intro h
   cases h with
   | bar => exact .inl (.inl (.inl (by simp [bar])))
   | lock h => exact .inl (.inl (.inr ⟨_, h, by simp [zh6]⟩))
   | save h => exact .inl (.inl (.inr ⟨_, h, by simp [zh6]⟩))
   | state h => exact .inl (.inl (.inr ⟨_, h, by simp [zh6]⟩))
   | chan h => exact .inl (.inr ⟨_, h, .inl (by simp [zfJ])⟩)
   | stage h => exact .inl (.inr ⟨_, h, .inl (by simp [zfJ])⟩)
   | port h hx => exact .inl (.inr ⟨_, h, .inr hx⟩)
   | tab h hx => exact .inr ⟨_, h, hx⟩
theorem rep_mem {f i : Nat} {x : Pc} : ∀ {n}, x ∈ rep f i n ↔ ∃ j, j < n /\ x = (16 * (f + j), 16, ⟨9, (i : Int), 0⟩)
 | 0 => by simp [rep]
 | n + 1 => by
  rw [rep, List.mem_append, rep_mem, List.mem_singleton]
  constructor
  . rintro (⟨j, hj, h⟩ | h)
    . exact ⟨j, by omega, h⟩
    . exact ⟨n, by omega, h⟩
  . rintro ⟨j, hj, h⟩
    by_cases hjn : j = n
    . subst hjn; exact .inr h
    . exact .inl ⟨j, by omega, h⟩
theorem zpa {s : Nat} {x : Pc} : ∀ {l : List LayoutEnd} {a : Nat}, x ∈ zay s a l -> x.2.1 = s /\ ∃ e ∈ l, x.2.2 = ⟨8, e.partition, e.port⟩
 | [], a, h => by cases h
 | e :: l, a, h => by
  rw [zay] at h
  rcases List.mem_cons.1 h with rfl | h
  . exact ⟨rfl, e, by simp, rfl⟩
  . obtain ⟨h1, e', he, h2⟩ := zpa h
    exact ⟨h1, e', by simp [he], h2⟩
def PcOk (c : Config) (x : Pc) : Prop := x.2.2.kind = 2 ∨ ((x.2.2.kind = 3 ∨ x.2.2.kind = 4 ∨ x.2.2.kind = 5 ∨ x.2.2.kind = 9) /\ ∃ j, j < nP c /\ x.2.2.index = ((j : Nat) : Int)) ∨ ((x.2.2.kind = 6 ∨ x.2.2.kind = 7) /\ ∃ j, j < nC c /\ x.2.2.index = ((j : Nat) : Int)) ∨ (x.2.2.kind = 8 /\ 1 <= nC c)
theorem zQL {c : Config} {x : Pc} (h : Is c x) : PcOk c x := by
 cases h with
 | bar => exact .inl rfl
 | lock h => exact .inr (.inl ⟨.inl rfl, _, h, rfl⟩)
 | save h => exact .inr (.inl ⟨.inr (.inl rfl), _, h, rfl⟩)
 | state h => exact .inr (.inl ⟨.inr (.inr (.inl rfl)), _, h, rfl⟩)
 | chan h => exact .inr (.inr (.inl ⟨.inl rfl, _, h, rfl⟩))
 | stage h => exact .inr (.inr (.inl ⟨.inr rfl, _, h, rfl⟩))
 | port h hx =>
  obtain ⟨_, e, _, h2⟩ := zpa hx
  exact .inr (.inr (.inr ⟨by rw [h2], by omega⟩))
 | tab h hx =>
  obtain ⟨j, hj, rfl⟩ := rep_mem.1 hx
  exact .inr (.inl ⟨.inr (.inr (.inr rfl)), _, h, rfl⟩)
structure Inv (c : Config) (i : Nat) (x0 : Int) (x4 : List PartitionPlace) (x5 : List ChannelPlace) : Prop where
 ch : 0 <= x0 /\ (1 <= nC c -> x0 < nC c)
 l4 : x4.length = nP c
 l5 : x5.length = nC c
 t : ∀ p ∈ x4, p.tables.length <= i
 d : ∀ p ∈ x5, p.dests.length <= i
theorem Inv.up {c : Config} {i : Nat} {x0 : Int} {x4 : List PartitionPlace} {x5 : List ChannelPlace} (h : Inv c i x0 x4 x5) : Inv c (i + 1) x0 x4 x5 :=
 ⟨h.ch, h.l4, h.l5, fun p hp => Nat.le_succ_of_le (h.t p hp), fun p hp => Nat.le_succ_of_le (h.d p hp)⟩
theorem Inv.set4 {c : Config} {i : Nat} {x0 : Int} {x4 : List PartitionPlace} {x5 : List ChannelPlace} (h : Inv c i x0 x4 x5) {j : Nat} {y : PartitionPlace} (hy : y.tables.length <= i + 1) : Inv c (i + 1) x0 (List.set x4 j y) x5 :=
 ⟨h.ch, by rw [List.length_set, h.l4], h.l5, fun p hp => by
  rcases List.mem_or_eq_of_mem_set hp with hp | rfl
  . exact Nat.le_succ_of_le (h.t p hp)
  . exact hy, fun p hp => Nat.le_succ_of_le (h.d p hp)⟩
theorem Inv.set5 {c : Config} {i : Nat} {x0 : Int} {x4 : List PartitionPlace} {x5 : List ChannelPlace} (h : Inv c i x0 x4 x5) {j : Nat} {y : ChannelPlace} (hy : y.dests.length <= i + 1) : Inv c (i + 1) x0 x4 (List.set x5 j y) :=
 ⟨h.ch, h.l4, by rw [List.length_set, h.l5], fun p hp => Nat.le_succ_of_le (h.t p hp), fun p hp => by
  rcases List.mem_or_eq_of_mem_set hp with hp | rfl
  . exact Nat.le_succ_of_le (h.d p hp)
  . exact hy⟩
theorem Inv.setc {c : Config} {i : Nat} {x0 y : Int} {x4 : List PartitionPlace} {x5 : List ChannelPlace} (h : Inv c i x0 x4 x5) (hy : 0 <= y /\ (1 <= nC c -> y < nC c)) : Inv c i y x4 x5 := ⟨hy, h.l4, h.l5, h.t, h.d⟩
theorem zzW {xs : List PartitionPlace} {i : Nat} (h : i < xs.length) : zaa xs i ∈ xs := by
 simp [zaa, List.getD, h]
theorem zlq {xs : List ChannelPlace} {i : Nat} (h : i < xs.length) : zx xs i ∈ xs := by
 simp [zx, List.getD, h]
theorem zs0 {xs : List Pc} {i : Nat} (h : i < xs.length) : zaY (xs.map mkR) i = mkR xs[i] := by
 simp [zaY, List.getD, h]
theorem zbf {x : Int} {n : Nat} (h0 : 0 <= x) (h1 : x < n) : zU x n = true := by
 obtain ⟨m, rfl⟩ := Int.eq_ofNat_of_zero_le h0
 exact zh (by omega)
section
variable {c : Config} (g : zaC c) (hk : 0 <= c.kernel /\ c.kernel < 1024)
include g hk
theorem zwm {x : Pc} (hx : x ∈ zaJ c) : x.1 + x.2.1 <= 48000 := by
 have h1 := ((ztI c).in_ x hx).2
 have h2 := zqd g hk (Nat.le_refl (nP c))
 omega
theorem zwh {i : Nat} (hi : i < (zaJ c).length) {x0 x1 x3 : Int} {x4 : List PartitionPlace} {x5 : List ChannelPlace} (h : Inv c i x0 x4 x5) (hi4 : i <= 4000) : ∃ x0' x3' x4' x5', Inv c (i + 1) x0' x4' x5' /\ ziq c (.l4 x0 x1 (i : Int) x3 x4 x5) = ziq c (.l4 x0' (((zaJ c)[i].1 + (zaJ c)[i].2.1 : Nat) : Int) ((i + 1 : Nat) : Int) x3' x4' x5') := by
 obtain ⟨p1, p2⟩ := zk (zh8 g hk)
 have p1' : zf7 c = (zaJ c).map mkR := p1
 have hm : (zaJ c)[i] ∈ zaJ c := List.getElem_mem hi
 have he := zwm g hk hm
 have e81 : ∀ (a b d : Int) x y, ziq c (.l81 a b (i : Int) d x y) = ziq c (.l4 a b ((i + 1 : Nat) : Int) d x y) := fun a b d x y => by
  rw [zgb]
  simp only [zfl, zf i (show i < 4611686018427387904 by omega)]
 have hl : i < ((zaJ c).map mkR).length := by rw [List.length_map]; exact hi
 have ew : i64.wrap ((mkR (zaJ c)[i]).at_ + (mkR (zaJ c)[i]).size) = (((zaJ c)[i].1 + (zaJ c)[i].2.1 : Nat) : Int) := zr _ _ (by simp only [mkR]; omega) (by omega)
 have hr : ∀ {x : Int} {n : Nat}, 0 <= x -> x < n -> zU x n = true := zbf
 have hok := zQL (ref_mem.1 hm)
 rw [zgb]
 simp only [zfl, p1', tnC, zR hl, zh hl, cnT, zs0 hi, ew, e81, Nat.beq_refl]
 have ho : (mkR (zaJ c)[i]).owner = (zaJ c)[i].2.2 := rfl
 rw [ho]
 have h4 := h.l4
 have h5 := h.l5
 generalize (zaJ c)[i] = x at *
 rcases hok with k | ⟨k, j, hj, ij⟩ | ⟨k, j, hj, ij⟩ | ⟨k, hc⟩
 . rw [k]; refine ⟨_, _, _, _, ?_, rfl⟩; exact h.up
 . have hj4 : j < x4.length := by omega
   have hmem := h.t _ (zzW hj4)
   rw [ij]
   simp only [zh hj4, tnC, cnT]
   rcases k with k | k | k | k
   . rw [k]; refine ⟨_, _, _, _, ?_, rfl⟩; exact h.set4 (Nat.le_succ_of_le hmem)
   . rw [k]; refine ⟨_, _, _, _, ?_, rfl⟩; exact h.set4 (Nat.le_succ_of_le hmem)
   . rw [k]; refine ⟨_, _, _, _, ?_, rfl⟩; exact h.set4 (Nat.le_succ_of_le hmem)
   . rw [k]
     have b1 : ∀ y : Int, leB (((zaa x4 j).tables.length + [y].length) * 8) 140737488355328 = true := zdU (by omega) (by omega)
     simp only [b1, cnT]
     cases hroot : ((zaa x4 j).root == 0) with
     | true => refine ⟨_, _, _, _, ?_, rfl⟩; exact h.set4 (Nat.le_succ_of_le hmem)
     | false => refine ⟨_, _, _, _, ?_, rfl⟩; exact h.set4 (by rw [List.length_append]; exact Nat.succ_le_succ hmem)
 . have hj5 : j < x5.length := by omega
   have hmem := h.d _ (zlq hj5)
   rw [ij]
   simp only [zh hj5, tnC, cnT]
   rcases k with k | k
   . rw [k]; refine ⟨_, _, _, _, ?_, rfl⟩; exact Inv.setc (x0 := x0) (h.set5 (Nat.le_succ_of_le hmem)) ⟨Int.natCast_nonneg _, fun _ => Int.ofNat_lt.2 hj⟩
   . rw [k]; refine ⟨_, _, _, _, ?_, rfl⟩; exact h.set5 (Nat.le_succ_of_le hmem)
 . obtain ⟨c1, c2⟩ := h.ch
   have c2 := c2 hc
   have hmem := h.d _ (zlq (xs := x5) (i := x0.toNat) (by omega))
   have b1 : ∀ y : DestPlace, leB (((zx x5 x0.toNat).dests.length + [y].length) * 24) 140737488355328 = true := zdU (by omega) (by omega)
   rw [k]
   simp only [hr c1 (show x0 < (x5.length : Nat) by omega), b1, cnT]
   refine ⟨_, _, _, _, ?_, rfl⟩; exact h.set5 (by rw [List.length_append]; exact Nat.succ_le_succ hmem)
end
theorem zBz {c : Config} (g : zaC c) (h : Int) : ∃ r, zvy c h = some r := by
 have hP := g.few.parts
 have outer : ∀ m q, q + m = nP c -> ∃ r, zm4 c h (.l0 (q : Int)) = some r := by
  intro m
  induction m with
  | zero =>
   intro q hq
   have hf : decide ((q : Int) < (c.partitions.length : Int)) = false := zS (by unfold nP at hq; omega)
   exact ⟨_, by rw [zgD]; simp only [zds, hf, cnF]; rfl⟩
  | succ m ih =>
   intro q hq
   have hq' : q < c.partitions.length := by unfold nP at hq; omega
   have hn := g.few.ports q hq'
   obtain ⟨r, hr⟩ := ih (q + 1) (by omega)
   have inner : ∀ m i, i + m = zL c q -> ∃ r, zm4 c h (.l4 (q : Int) (q : Int) (zL c q) (i : Int)) = some r := by
    intro m
    induction m with
    | zero =>
     intro i hi
     have hf : decide ((i : Int) < (zL c q : Int)) = false := zS (by omega)
     exact ⟨r, by rw [zgD]; simp only [zds, hf, cnF, zf q (show q < 4611686018427387904 by omega)]; exact hr⟩
    | succ m ih' =>
     intro i hi
     have hi' : i < (za c.partitions q).ports.length := by have : zL c q = (za c.partitions q).ports.length := rfl; omega
     obtain ⟨r', hr'⟩ := ih' (i + 1) (by omega)
     have ht : decide ((i : Int) < (zL c q : Int)) = true := zR (by omega)
     rw [zgD]
     simp only [zds, tnC, ht, zh hi', zh hq', cnT, zf i (show i < 4611686018427387904 by omega), hr']
     cases (zaI (za c.partitions q).ports i).channel == h <;> cases (zaI (za c.partitions q).ports i).source <;> exact ⟨_, rfl⟩
   obtain ⟨r', hr'⟩ := inner _ 0 (Nat.zero_add _)
   refine ⟨r', ?_⟩
   rw [zgD]
   simp only [zds, tnC, zR hq', zh hq', cnT]
   exact hr'
 exact outer _ 0 (Nat.zero_add _)
section
variable {c : Config} (g : zaC c) (hk : 0 <= c.kernel /\ c.kernel < 1024)
include g hk
theorem zwn : (zaJ c).length <= 400 := zBp g (Nat.le_refl _)
theorem zt3 : ∃ l x, zaJ c = l ++ [x] /\ x.1 + x.2.1 = 16 * tF c (nP c) := by
 obtain ⟨n, hn⟩ : ∃ n, nP c = n + 1 := ⟨nP c - 1, by have := g.least; unfold nP; omega⟩
 unfold zaJ
 rw [hn, zeG, show 1 + zd2 (P c n) = zd2 (P c n) + 1 by omega, rep]
 exact ⟨_, _, by rw [← List.append_assoc, ← List.append_assoc], by rw [tF]; simp only; omega⟩
theorem zIH : bop .quo .i64 (i64.wrap (i64.wrap (((16 * tF c (nP c) : Nat) : Int) + 16) - 1)) 16 = (tF c (nP c) : Int) := by
 have ht := zqd g hk (Nat.le_refl (nP c))
 have e1 : i64.wrap (((16 * tF c (nP c) : Nat) : Int) + 16) = ((16 * tF c (nP c) + 16 : Nat) : Int) := zr _ _ (by omega) (by omega)
 have e2 : i64.wrap (((16 * tF c (nP c) + 16 : Nat) : Int) - 1) = ((16 * tF c (nP c) + 15 : Nat) : Int) := zr _ _ (by omega) (by omega)
 rw [e1, e2, zfc _ (by omega)]
 omega
theorem zFK : ∀ m i, i + (m + 1) = (zaJ c).length -> ∀ (x0 x1 x3 : Int) (x4 : List PartitionPlace) (x5 : List ChannelPlace), Inv c i x0 x4 x5 -> ∃ L : Layout, ziq c (.l4 x0 x1 (i : Int) x3 x4 x5) = some (L, 0) /\ L.end_ = (tF c (nP c) : Int) := by
 have hlen := zwn g hk
 intro m
 induction m with
 | zero =>
  intro i hi x0 x1 x3 x4 x5 h
  obtain ⟨x0', x3', x4', x5', h', e⟩ := zwh g hk (show i < (zaJ c).length by omega) (x0 := x0) (x1 := x1) (x3 := x3) h (by omega)
  obtain ⟨l, x, hl, hx⟩ := zt3 g hk
  have hg : ∀ h : i < (zaJ c).length, (zaJ c)[i] = x := by
   rw [hl] at hi ⊢
   intro h
   have hil : i = l.length := by rw [List.length_append, List.length_singleton] at hi; omega
   subst hil
   simp
  obtain ⟨p1, p2⟩ := zk (zh8 g hk)
  have p1' : zf7 c = (zaJ c).map mkR := p1
  rw [e, hg, hx]
  have hf : decide (((i + 1 : Nat) : Int) < (((zaJ c).map mkR).length : Int)) = false := zS (by rw [List.length_map]; omega)
  rw [zgb]
  simp only [zfl, p1', hf, cnF, zIH g hk, id]
  exact ⟨_, rfl, rfl⟩
 | succ m ih =>
  intro i hi x0 x1 x3 x4 x5 h
  obtain ⟨x0', x3', x4', x5', h', e⟩ := zwh g hk (show i < (zaJ c).length by omega) (x0 := x0) (x1 := x1) (x3 := x3) h (by omega)
  rw [e]
  exact ih (i + 1) (by omega) _ _ _ _ _ h'
theorem zAZ : ∀ m k, k + m = nC c -> ∀ xs : List ChannelPlace, xs.length = nC c -> (∀ p ∈ xs, p.dests.length <= 0) -> ∃ L : Layout, ziq c (.l0 (k : Int) xs) = some (L, 0) /\ L.end_ = (tF c (nP c) : Int) := by
 have hC := g.chans
 have hP := g.few.parts
 intro m
 induction m with
 | zero =>
  intro k hk' xs hx hd
  obtain ⟨p1, p2⟩ := zk (zh8 g hk)
  have p2' : zp4 c = true := p2
  have hf : decide ((k : Int) < (c.channels.length : Int)) = false := zS (by unfold nC at hk'; omega)
  rw [zgb]
  simp only [zfl, hf, p2', cnF, cnT, tnC]
  obtain ⟨l, x, hl, _⟩ := zt3 g hk
  refine zFK g hk ((zaJ c).length - 1) 0 (by rw [hl, List.length_append, List.length_singleton]; omega) _ _ _ _ _ ⟨⟨Int.le_refl _, fun h => by omega⟩, by rw [List.length_replicate]; rfl, hx, fun p hp => ?_, hd⟩
  rw [(List.mem_replicate.1 hp).2]; exact Nat.le_refl _
 | succ m ih =>
  intro k hk' xs hx hd
  have hkk : k < c.channels.length := by unfold nC at hk'; omega
  obtain ⟨r, hr⟩ := zBz g (k : Int)
  obtain ⟨p1, p2⟩ := zk hr
  have p2' : zrF c (k : Int) = true := p2
  have hkx : k < xs.length := by omega
  have hl2 : ∀ y, k < (List.set xs k y).length := fun y => by rw [List.length_set]; exact hkx
  rw [zgb]
  simp only [zfl, tnC, zR hkk, p2', zh hkx, zh (hl2 _), cnT, zf k (show k < 4611686018427387904 by omega)]
  refine ih (k + 1) (by omega) _ (by rw [List.length_set, List.length_set]; exact hx) fun p hp => ?_
  have h0 := hd _ (zlq hkx)
  rcases List.mem_or_eq_of_mem_set hp with hp | rfl
  . rcases List.mem_or_eq_of_mem_set hp with hp | rfl
    . exact hd p hp
    . exact h0
  . have e : zx (List.set xs k ⟨(zx xs k).lock, (zx xs k).stage, (zmW c (k : Int)).1, (zx xs k).port, (zx xs k).dests⟩) k = ⟨(zx xs k).lock, (zx xs k).stage, (zmW c (k : Int)).1, (zx xs k).port, (zx xs k).dests⟩ := by
     simp [zx, List.getD, List.getElem?_set, hkx]
    show (zx (List.set xs k _) k).dests.length <= 0
    rw [e]; exact h0
theorem of_r : ∃ L : Layout, zwU c = some (L, 0) /\ L.end_ = (tF c (nP c) : Int) := by
 obtain ⟨k1, k2⟩ := zk (zH8 g hk)
 have k1' : zzd c = true := k1
 have k2' : zp3 c = true := k2
 have hC := g.chans
 have hP := g.few.parts
 unfold zwU zoB
 rw [k1', k2', cnT, Bool.not_true, cnF, zAH _ _ (by unfold B47; omega), zAH _ _ (by unfold B47; omega), cnT, cnT, tnC]
 exact zAZ g hk (nC c) 0 (Nat.zero_add _) _ (by rw [List.length_replicate]; rfl) fun p hp => by rw [(List.mem_replicate.1 hp).2]; exact Nat.le_refl _
theorem zKi : zq7 c = some ((tF c (nP c) : Int) - c.kernel, 0) := by
 obtain ⟨L, h1, h2⟩ := of_r g hk
 obtain ⟨k1, k2⟩ := zk h1
 have k1' : zhu c = (L, 0) := k1
 have k2' : zp6 c = true := k2
 have ht := zqd g hk (Nat.le_refl (nP c))
 unfold zq7 zlR
 rw [k2', k1', cnT, h2, zaO _ (by omega) (by omega)]
 rfl
theorem zKh : zre c = some ((tF c (nP c) : Int) - c.kernel, 0) := by
 obtain ⟨k1, k2⟩ := zk (zH5 g hk)
 have k1' : zcZ c = (lay c, 0) := k1
 have k2' : znO c = true := k2
 have ht := zqd g hk (Nat.le_refl (nP c))
 unfold zre zl2
 rw [k2', k1', cnT, show (lay c, (0 : Int)).1.end_ = (tF c (nP c) : Int) from rfl, zaO _ (by omega) (by omega)]
 rfl
end
noncomputable def kin (c : Config) : Bool := decide (0 <= c.kernel) && decide (c.kernel <= i64.wrap (c.frames - 1))
noncomputable def rin (c : Config) : Bool := decide (1 <= c.room) && decide (c.room <= i64.wrap (c.frames - c.kernel))
noncomputable def kmq (c : Config) (p k : Nat) : Bool := zky (Rg c p k).frame (Rg c p k).pages c.kernel c.room
noncomputable def zoV (c : Config) : Bool := (List.range (nP c)).any fun p => (List.range (zap c p)).any (kmq c p)
noncomputable def zmv (c : Config) : Bool := kin c && (rin c && (!(zoV c) && decide ((tF c (nP c) : Int) - c.kernel <= c.room)))
theorem zAA {c : Config} (g : zaC c) (h : kin c = true) : 0 <= c.kernel /\ c.kernel < 1024 := by
 have hf := g.frames
 unfold kin at h
 rw [zaO _ (by omega) (by omega)] at h
 simp only [Bool.and_eq_true, decide_eq_true_eq] at h
 omega
theorem zIx {c : Config} (g : zaC c) : znl c = some (zmv c) := by
 have hP := g.few.parts
 unfold znl ziP zmv
 rw [zjv, zjv]
 show cond (!(kin c)) _ (cond (!(rin c)) _ _) = _
 cases h1 : kin c with
 | false => rfl
 | true =>
 cases h2 : rin c with
 | false => rfl
 | true =>
 rw [Bool.not_true, cnF, cnF, Bool.true_and, Bool.true_and]
 have hk := zAA g h1
 have h := zaf (n := nP c) (f := fun p => zjI c (.l0 (p : Int))) (q := fun p => (List.range (zap c p)).any (kmq c p)) (r := some false) (e := some (decide ((tF c (nP c) : Int) - c.kernel <= c.room))) (fun p hp => by
  have hp' : p < c.partitions.length := hp
  have hn := (g.nregs p hp').2
  have hin := zaf (n := zap c p) (f := fun k => zjI c (.l4 (p : Int) (k : Int))) (q := kmq c p) (r := some false) (e := zjI c (.l0 ((p + 1 : Nat) : Int))) (fun k hkk => by
   have hkk' : k < (za c.partitions p).regions.length := hkk
   rw [zgC]
   simp only [zdr, tnC, zh hp', zR hkk', zh hkk', cnT, zf k (show k < 4611686018427387904 by omega)]
   rfl) (by
   have hf : decide ((zap c p : Int) < ((za c.partitions p).regions.length : Int)) = false := zS (Nat.le_refl _)
   rw [zgC]
   simp only [zdr, tnC, zh hp', hf, cnT, cnF, zf p (show p < 4611686018427387904 by omega)])
  refine Eq.trans ?_ hin
  rw [zgC]
  simp only [zdr, zR hp', cnT]
  rfl) (by
  obtain ⟨k1, k2⟩ := zk (zKi g hk)
  have k1' : zpr c = _ := k1
  have k2' : zrP c = true := k2
  have hf : decide ((nP c : Int) < (c.partitions.length : Int)) = false := zS (Nat.le_refl _)
  rw [zgC]
  simp only [zdr, hf, cnF, k1', k2', cnT]
  rfl)
 refine Eq.trans h ?_
 show cond (zoV c) _ _ = _
 cases zoV c <;> rfl
theorem zAz {c : Config} (g : zaC c) : zns c = some (zmv c) := by
 have hP := g.few.parts
 unfold zns ziY zmv
 rw [ze7, ze7]
 show cond (!(kin c)) _ (cond (!(rin c)) _ _) = _
 cases h1 : kin c with
 | false => rfl
 | true =>
 cases h2 : rin c with
 | false => rfl
 | true =>
 rw [Bool.not_true, cnF, cnF, Bool.true_and, Bool.true_and]
 have hk := zAA g h1
 have h := zaf (n := nP c) (f := fun p => zjK c (.l0 (p : Int))) (q := fun p => (List.range (zap c p)).any (kmq c p)) (r := some false) (e := some (decide ((tF c (nP c) : Int) - c.kernel <= c.room))) (fun p hp => by
  have hp' : p < c.partitions.length := hp
  have hn := (g.nregs p hp').2
  have hin := zaf (n := zap c p) (f := fun k => zjK c (.l4 (p : Int) (P c p).regions (zap c p) (k : Int))) (q := kmq c p) (r := some false) (e := zjK c (.l0 ((p + 1 : Nat) : Int))) (fun k hkk => by
   have hkk' : k < (P c p).regions.length := hkk
   rw [zgE]
   simp only [zdt, tnC, zR hkk, zh hkk', cnT, zf k (show k < 4611686018427387904 by omega)]
   rfl) (by
   rw [zgE]
   simp only [zdt, zS (Nat.le_refl _), cnF, zf p (show p < 4611686018427387904 by omega)])
  refine Eq.trans ?_ hin
  rw [zgE]
  simp only [zdt, tnC, zR hp', zh hp', cnT]
  rfl) (by
  obtain ⟨k1, k2⟩ := zk (zKh g hk)
  have k1' : zpu c = _ := k1
  have k2' : zrT c = true := k2
  have hf : decide ((nP c : Int) < (c.partitions.length : Int)) = false := zS (Nat.le_refl _)
  rw [zgE]
  simp only [zdt, hf, cnF, k1', k2', cnT]
  rfl)
 refine Eq.trans h ?_
 show cond (zoV c) _ _ = _
 cases zoV c <;> rfl
noncomputable def zcC (c : Config) : Bool := zk2 c && zmv c
theorem zGX {c : Config} (hc : zbK c) : zca (zur c) (zcC c) := zD2 hc fun h => zIx (zqw hc h)
theorem zxW {c : Config} (hc : zbK c) : zca (zuq c) (zcC c) := zD1 hc fun h => zAz (zqw hc h)
theorem zkk (s : Nat) : ∀ (l : List LayoutEnd) (a j : Nat), j < l.length -> zb3 (zbs s a l) j = ⟨(zF l j).partition, (zF l j).port, ((a + j * s : Nat) : Int)⟩
 | [], _, _, h => by simp at h
 | e :: l, a, 0, h => by simp [zbs, zb3, zF]
 | e :: l, a, j + 1, h => by
  have := zkk s l (a + s) j (by simpa using h)
  rw [show a + s + j * s = a + (j + 1) * s by rw [Nat.add_mul]; omega] at this
  exact this
theorem zIC {c : Config} {n k : Nat} (hk : k < n) : zx (chL c n) k = zyC c k := by
 simp [zx, List.getD, chL, hk]
section
variable {c : Config} (g : zaC c) (hk : 0 <= c.kernel /\ c.kernel < 1024)
include g hk
end
theorem zo0 {α R : Type} {l : List α} {f : Nat -> Option R} {q : α -> Bool} {g : α -> Option R} {e : Option R} (hs : ∀ i (h : i < l.length), f i = cond (q l[i]) (g l[i]) (f (i + 1))) (he : f l.length = e) : f 0 = match l.find? q with | some x => g x | none => e := by
 have : ∀ m i, i + m = l.length -> f i = match (l.drop i).find? q with | some x => g x | none => e := by
  intro m
  induction m with
  | zero =>
   intro i hi
   rw [Nat.add_zero] at hi
   subst hi
   simp [he]
  | succ m ih =>
   intro i hi
   have hl : i < l.length := by omega
   rw [hs i hl, ih (i + 1) (by omega), List.drop_eq_getElem_cons hl, List.find?_cons]
   cases q l[i] <;> rfl
 have h := this l.length 0 (Nat.zero_add _)
 rwa [List.drop_zero] at h
noncomputable def zFT (c : Config) (f : Nat) (p k : Nat) : Bool := decide ((Rg c p k).frame <= f) && decide ((f : Int) < (Rg c p k).frame + (Rg c p k).pages)
noncomputable def zMa (c : Config) (f : Nat) : Option Nat := (List.range (nP c)).find? fun p => (List.range (zap c p)).any (zFT c f p)
noncomputable def own (c : Config) (a : Nat) : Owner := match (zaJ c).find? (fun x => inP x a) with
 | some x => x.2.2
 | none => match zMa c (a / 16) with
  | some p => ⟨1, (p : Int), 0⟩
  | none => ⟨0, 0, 0⟩
section
variable {c : Config} (g : zaC c) (hk : 0 <= c.kernel /\ c.kernel < 1024)
include g
theorem zMc {p k : Nat} (hp : p < nP c) (hkk : k < zap c p) : 0 <= (Rg c p k).frame /\ 1 <= (Rg c p k).pages /\ (Rg c p k).frame + (Rg c p k).pages <= 1024 /\ i64.wrap ((Rg c p k).frame + (Rg c p k).pages) = (Rg c p k).frame + (Rg c p k).pages := by
 have h := g.regs p k hp hkk
 obtain ⟨h1, h2⟩ := h.ok.pages
 have h3 := h.frame
 have h4 := h.fits
 have h5 := g.frames
 exact ⟨h3, h1, by omega, zaO _ (by omega) (by omega)⟩
theorem zod {a : Nat} (ha : a < 100000) : zil c (a : Int) (.l4 0) = some (match zMa c (a / 16) with | some p => ⟨1, (p : Int), 0⟩ | none => ⟨0, 0, 0⟩, 0) := by
 have hP : nP c <= 8 := g.few.parts
 have h := zo0 (l := List.range (nP c)) (f := fun p => zil c (a : Int) (.l4 (p : Int))) (q := fun p => (List.range (zap c p)).any (zFT c (a / 16) p)) (g := fun p => some ((⟨1, (p : Int), 0⟩ : Owner), (0 : Int))) (e := some ((⟨0, 0, 0⟩ : Owner), 0)) (fun p hp => by
  rw [List.length_range] at hp
  rw [List.getElem_range]
  have hp' : p < c.partitions.length := hp
  have hn := (g.nregs p hp').2
  have hin := zaf (n := zap c p) (f := fun k => zil c (a : Int) (.l8 (p : Int) (p : Int) (zap c p) (k : Int))) (q := zFT c (a / 16) p) (r := some ((⟨1, (p : Int), 0⟩ : Owner), (0 : Int))) (e := zil c (a : Int) (.l4 ((p + 1 : Nat) : Int))) (fun k hkk => by
   have hkk' : k < (za c.partitions p).regions.length := hkk
   obtain ⟨r1, r2, r3, r4⟩ := zMc g hp hkk
   have d1 : decide ((zm (za c.partitions p).regions k).frame >= 0) = true := decide_eq_true r1
   have d2 : decide ((zm (za c.partitions p).regions k).frame <= 1024) = true := decide_eq_true (by show (Rg c p k).frame <= 1024; omega)
   have d4 : i64.wrap ((zm (za c.partitions p).regions k).frame + (zm (za c.partitions p).regions k).pages) = (Rg c p k).frame + (Rg c p k).pages := r4
   rw [zeA]
   simp only [zed, tnC, zR hkk, zh hp', zh hkk', cnT, d1, d2, d4, zfc a (by omega), zf k (show k < 4611686018427387904 by omega), zlx, id]
   rfl) (by
   rw [zeA]
   simp only [zed, zS (Nat.le_refl _), cnF, zf p (show p < 4611686018427387904 by omega)])
  refine Eq.trans ?_ hin
  rw [zeA]
  simp only [zed, tnC, zR hp', zh hp', cnT]
  rfl) (by
  rw [List.length_range]
  have hf : decide ((nP c : Int) < (c.partitions.length : Int)) = false := zS (Nat.le_refl _)
  rw [zeA]
  simp only [zed, hf, cnF, id])
 refine Eq.trans h ?_
 unfold zMa
 cases List.find? (fun p => (List.range (zap c p)).any (zFT c (a / 16) p)) (List.range (nP c)) <;> rfl
include hk
theorem zFL {a : Nat} (ha : (a : Int) < 16 * c.frames) : zwG c (a : Int) = some (own c a, 0) := by
 have hf := g.frames
 obtain ⟨k1, k2⟩ := zk (zH8 g hk)
 have k1' : zzd c = true := k1
 have k2' : zp3 c = true := k2
 obtain ⟨p1, p2⟩ := zk (zh8 g hk)
 have p1' : zf7 c = (zaJ c).map mkR := p1
 have p2' : zp4 c = true := p2
 have hlen := zwn g hk
 unfold zwG zoo
 rw [k1', k2', p2', cnT, Bool.not_true, cnF, zfc a (by omega), decide_eq_false (by omega), decide_eq_false (by omega), decide_eq_false (by omega), cnF, cnF, cnF, cnT]
 have h := zo0 (l := zaJ c) (f := fun i => zil c (a : Int) (.l0 (i : Int))) (q := fun x => inP x a) (g := fun x => some (x.2.2, (0 : Int))) (e := zil c (a : Int) (.l4 0)) (fun i hi => by
  have hm : (zaJ c)[i] ∈ zaJ c := List.getElem_mem hi
  have he := zwm g hk hm
  have hl : i < ((zaJ c).map mkR).length := by rw [List.length_map]; exact hi
  have ew : i64.wrap ((mkR (zaJ c)[i]).at_ + (mkR (zaJ c)[i]).size) = (((zaJ c)[i].1 + (zaJ c)[i].2.1 : Nat) : Int) := zr _ _ (by simp only [mkR]; omega) (by omega)
  have d1 : decide ((mkR (zaJ c)[i]).at_ <= (a : Int)) = decide ((zaJ c)[i].1 <= a) := by rw [decide_eq_decide]; show (((zaJ c)[i].1 : Nat) : Int) <= a ↔ _; omega
  have d2 : decide ((a : Int) < (((zaJ c)[i].1 + (zaJ c)[i].2.1 : Nat) : Int)) = decide (a < (zaJ c)[i].1 + (zaJ c)[i].2.1) := by rw [decide_eq_decide]; omega
  rw [zeA]
  simp only [zed, tnC, p1', zR hl, zh hl, cnT, zs0 hi, ew, d1, d2, zf i (show i < 4611686018427387904 by omega), zlx, id]
  rfl) (by
  have hf : decide (((zaJ c).length : Int) < (((zaJ c).map mkR).length : Int)) = false := zS (by rw [List.length_map]; exact Nat.le_refl _)
  rw [zeA]
  simp only [zed, p1', hf, cnF])
 refine Eq.trans h ?_
 rw [zod g (by omega)]
 unfold own
 cases (zaJ c).find? (fun x => inP x a) <;> rfl
end
noncomputable def nW (c : Config) : Nat := 16 * c.frames.toNat
theorem zPq {c : Config} (g : zaC c) (hk : 0 <= c.kernel /\ c.kernel < 1024) : nW c <= 16384 /\ (nW c : Int) = 16 * c.frames := by
 have := g.frames
 unfold nW; omega
structure zuN (c : Config) : Prop where
 kernel : 0 <= c.kernel /\ c.kernel < 1024
 room : 1 <= c.room /\ c.kernel + c.room <= c.frames
 apart : ∀ p k, p < nP c -> k < zap c p -> zky (Rg c p k).frame (Rg c p k).pages c.kernel c.room = false
 need : (tF c (nP c) : Int) - c.kernel <= c.room
theorem zFC {c : Config} (g : zaC c) (h : zmv c = true) : zuN c := by
 simp only [zmv, Bool.and_eq_true, decide_eq_true_eq] at h
 obtain ⟨h1, h2, h3, h4⟩ := h
 have hk := zAA g h1
 have hf := g.frames
 unfold rin at h2
 rw [zaO _ (by omega) (by omega)] at h2
 simp only [Bool.and_eq_true, decide_eq_true_eq] at h2
 refine ⟨hk, ⟨h2.1, by omega⟩, fun p k hp hkk => ?_, h4⟩
 have h5 : zoV c = false := by simpa using h3
 exact any_f.1 (any_f.1 h5 p hp) k hkk
def mk (N : Nat) (f : Nat -> Int) : List Int := (List.range N).map f
theorem zB (N : Nat) (f : Nat -> Int) : (mk N f).length = N := by simp [mk]
theorem zaU {N i : Nat} (h : i < N) (f : Nat -> Int) : zN (mk N f) i = f i := by simp [zN, mk, List.getD, h]
theorem zKe {N i : Nat} (h : N <= i) (f : Nat -> Int) : zN (mk N f) i = 0 := by simp [zN, mk, List.getD, Nat.not_lt.2 h]
theorem zd1 {N : Nat} {f g : Nat -> Int} (h : ∀ i, i < N -> f i = g i) : mk N f = mk N g := List.map_congr_left fun i hi => h i (List.mem_range.1 hi)
theorem zv9 {l l' : List Int} (hl : l.length = l'.length) (h : ∀ i, i < l.length -> zN l i = zN l' i) : l = l' := by
 refine List.ext_getElem hl fun i h1 h2 => ?_
 have := h i h1
 simpa [zN, List.getD, h1, h2] using this
theorem zAV {l : List Int} {N : Nat} (h : l.length = N) : l = mk N (zN l) := zv9 (by rw [zB, h]) fun i hi => by rw [zaU (by omega)]
theorem zfV {N j : Nat} (h : j < N) (f : Nat -> Int) (y : Int) : List.set (mk N f) j y = mk N (fun i => if i = j then y else f i) := by
 refine zv9 (by simp [zB]) fun i hi => ?_
 rw [List.length_set, zB] at hi
 rw [zaU hi]
 have := zaU hi f
 simp only [zN, List.getD, List.getElem?_set, zB] at this ⊢
 by_cases hij : j = i
 . subst hij; simp [h]
 . rw [if_neg hij, if_neg (fun e => hij e.symm)]; exact this
theorem zqA (N : Nat) (y : Int) : List.replicate N y = mk N (fun _ => y) := by
 refine List.ext_getElem (by simp [mk]) fun i h1 h2 => ?_
 simp [mk]
theorem zbm {N k : Nat} (h : k <= N) (f : Nat -> Int) : (mk N f).take k = mk k f := by
 refine List.ext_getElem (by simp [mk]; omega) fun i h1 h2 => ?_
 simp [mk]
theorem zcf (N a : Nat) (f : Nat -> Int) : (mk N f).drop a = mk (N - a) (fun i => f (a + i)) := by
 refine List.ext_getElem (by simp [mk]) fun i h1 h2 => ?_
 simp [mk]
theorem zqB (N : Nat) (f : Nat -> Int) : mk N f ++ [f N] = mk (N + 1) f := by simp [mk, List.range_succ]
theorem zAU (N M : Nat) (f g : Nat -> Int) : mk N f ++ mk M g = mk (N + M) (fun i => if i < N then f i else g (i - N)) := by
 refine List.ext_getElem (by simp [mk]) fun i h1 h2 => ?_
 have h1' : i < N + M := by simpa [mk] using h1
 by_cases h : i < N
 . rw [List.getElem_append_left (by simpa [mk] using h)]; simp [mk, h]
 . rw [List.getElem_append_right (by simpa [mk] using h)]; simp [mk, h]
theorem znP {xs ys : List Int} (h : ys.length = xs.length) : zbP xs 0 ys = ys := by simp [zbP, h]
theorem ziw {N n a : Nat} (h : a + n <= N) (f g : Nat -> Int) : zbP (mk N f) a (mk n g) = mk N (fun i => if a <= i /\ i < a + n then g (i - a) else f i) := by
 unfold zbP
 rw [zB, zbm (by omega), zcf, zAU, zAU]
 have : a + (n + (N - (a + n))) = N := by omega
 rw [this]
 refine zd1 fun i hi => ?_
 by_cases h1 : i < a
 . rw [if_pos h1, if_neg (by omega)]
 . rw [if_neg h1]
   by_cases h2 : i - a < n
   . rw [if_pos h2, if_pos (by omega)]
   . rw [if_neg h2, if_neg (by omega)]
     exact congrArg f (by omega)
def U32 (f : Nat -> Int) : Prop := ∀ i, 0 <= f i /\ f i < 4294967296
theorem U32.w64 {f : Nat -> Int} (h : U32 f) (i : Nat) : i64.wrap (f i) = f i := by
 obtain ⟨h1, h2⟩ := h i
 exact zaO _ (by omega) (by omega)
theorem U32.sh {f : Nat -> Int} (h : U32 f) (a : Nat) : U32 fun i => f (a + i) := fun i => h (a + i)
theorem zdO {n : Int} (h0 : 0 <= n) (h1 : n < 4294967296) : u32.wrap n = n := by
 simp [IntKind.wrap, IntKind.bits, IntKind.signed]; omega
theorem mkT {x : Int} (h0 : 0 <= x) (h1 : x <= 100000) {b : Nat} (hb : b <= 104) : (decide (x = x) && decide (0 <= x) && leB (x.toNat * b) 140737488355328) = true := by
 have : x.toNat * b <= 100000 * 104 := Nat.mul_le_mul (by omega) hb
 rw [decide_eq_true h0, zbc (by omega), decide_eq_true (rfl : x = x)]; rfl
theorem zKd {x : Int} (h0 : 0 <= x) (h1 : x <= 100000) {b : Nat} (hb : b <= 104) : (decide True && decide (0 <= x) && leB (x.toNat * b) 140737488355328) = true := by
 have := mkT h0 h1 hb
 rwa [decide_eq_true (rfl : x = x)] at this
theorem zv1 {K : Nat} (hK : K <= 100000) (f : Nat -> Int) : zvE (mk K f) = some (!((List.range K).any fun i => !(f i == 0))) := by
 have h := zaf (n := K) (f := fun i => zqS (mk K f) (.l0 (i : Int))) (q := fun i => !(f i == 0)) (r := some false) (e := some true) (fun i hi => by
  rw [zpO]
  simp only [zeY, zB, zR hi, cnT, zh hi, tnC, zaU hi, zf i (by omega), id]) (by rw [zpO]; simp only [zeY, zB, zS (Nat.le_refl _), cnF, id])
 refine h.trans ?_
 cases (List.range K).any _ <;> rfl
def zcw (f : Nat -> Int) (h W : Nat) : Bool := decide (1 <= f (h - 1)) && decide (f (h - 1) <= (W : Int)) && !((List.range (W - (f (h - 1)).toNat)).any fun i => !(f (h + (f (h - 1)).toNat + i) == 0))
theorem zyT {f : Nat -> Int} (hf : U32 f) {h W : Nat} (h1 : 1 <= h) (h3 : h <= 3) (hW : W <= 16) : ∃ r, zjZ (mk (h + W) f) (h : Int) = some (r, zcw f h W) := by
 have e1 : i64.wrap ((h : Int) - 1) = ((h - 1 : Nat) : Int) := zr _ _ (by omega) (by omega)
 have e2 : zN (mk (h + W) f) (h - 1) = f (h - 1) := zaU (by omega) f
 have e3 : (List.take ((h + W : Nat) : Int).toNat (mk (h + W) f)).drop (h : Int).toNat = mk W fun i => f (h + i) := by
  simp only [tnC]
  rw [zbm (Nat.le_refl _), zcf, Nat.add_sub_cancel_left]
 unfold zjZ zhb
 simp only [zB, e1, tnC, e2, hf.w64, zh (show h - 1 < h + W by omega), cnT]
 have e3' : (List.take (h + W) (mk (h + W) f)).drop h = mk W fun i => f (h + i) := by simpa only [tnC] using e3
 rw [inS_iff.2 ⟨by omega, by omega, by omega⟩, cnT, e3', zB]
 obtain ⟨n0, n1⟩ := hf (h - 1)
 by_cases c1 : f (h - 1) < 1
 . refine ⟨[], ?_⟩
   rw [decide_eq_true c1, cnT]
   have : zcw f h W = false := by unfold zcw; rw [decide_eq_false (show ¬ 1 <= f (h - 1) by omega)]; rfl
   rw [this]; rfl
 . rw [decide_eq_false c1, cnF]
   by_cases c2 : f (h - 1) > (W : Int)
   . refine ⟨[], ?_⟩
     rw [decide_eq_true c2, cnT]
     have : zcw f h W = false := by unfold zcw; rw [decide_eq_false (show ¬ f (h - 1) <= (W : Int) by omega), Bool.and_false]; rfl
     rw [this]; rfl
   . rw [decide_eq_false c2, cnF, inS_iff.2 ⟨by omega, by omega, by omega⟩, cnT]
     have en : (((f (h - 1)).toNat : Nat) : Int) = f (h - 1) := by omega
     have e4 : ((((mk (h + W) f).take ((h + W : Nat) : Int).toNat).drop (h : Int).toNat).take ((((mk (h + W) f).take ((h + W : Nat) : Int).toNat).drop (h : Int).toNat).length : Int).toNat).drop (f (h - 1)).toNat = mk (W - (f (h - 1)).toNat) fun i => f (h + (f (h - 1)).toNat + i) := by
      rw [e3, zB, tnC, zbm (Nat.le_refl _), zcf]
      exact zd1 fun i hi => congrArg f (by omega)
     have hl := zaf (n := W - (f (h - 1)).toNat) (f := fun i => znd (mk (h + W) f) (h : Int) (.l0 (i : Int))) (q := fun i => !(f (h + (f (h - 1)).toNat + i) == 0)) (r := some ([], false)) (e := some (mk (f (h - 1)).toNat (fun i => f (h + i)), true)) (fun i hi => by
      rw [zgL]
      simp only [zdA, e1, tnC, e2, hf.w64]
      have e4' := e4
      simp only [tnC, zB] at e4' ⊢
      rw [e4', zB, zR hi, cnT, zh hi, cnT, zaU hi, zf i (by omega)]; rfl) (by
      rw [zgL]
      simp only [zdA, e1, tnC, e2, hf.w64]
      have e4' := e4
      simp only [tnC, zB] at e4' ⊢
      rw [e4', zB, zS (Nat.le_refl _), cnF]
      rw [zKd (show 0 <= f (h - 1) by omega) (by omega) (by decide), cnT, e3', List.length_replicate, zbm (by omega), znP (by rw [zB, List.length_replicate])]; rfl)
     refine ⟨cond ((List.range (W - (f (h - 1)).toNat)).any fun i => !(f (h + (f (h - 1)).toNat + i) == 0)) [] (mk (f (h - 1)).toNat (fun i => f (h + i))), hl.trans ?_⟩
     have : zcw f h W = !((List.range (W - (f (h - 1)).toNat)).any fun i => !(f (h + (f (h - 1)).toNat + i) == 0)) := by
      unfold zcw; rw [decide_eq_true (show 1 <= f (h - 1) by omega), decide_eq_true (show f (h - 1) <= (W : Int) by omega)]; rfl
     rw [this]
     cases (List.range (W - (f (h - 1)).toNat)).any fun i => !(f (h + (f (h - 1)).toNat + i) == 0) <;> rfl
def zaT (f : Nat -> Int) (h W : Nat) : Bool := !((List.range (h + W)).any fun i => !(f i == 0)) || ((f 0 == 1) && (!(h == 3) || decide (f 1 <= 1)) && zcw f h W)
theorem zJ2 {f : Nat -> Int} (hf : U32 f) {h W : Nat} (h2 : h = 2 ∨ h = 3) (hW : W <= 16) : ∃ r, zjY (mk (h + W) f) (h : Int) = some (r, zaT f h W) := by
 obtain ⟨k1, k2⟩ := zk (zv1 (K := h + W) (by omega) f)
 obtain ⟨r, hr⟩ := zyT hf (h := h) (W := W) (by omega) (by omega) hW
 obtain ⟨m1, m2⟩ := zk hr
 have k1' : zub (mk (h + W) f) = _ := k1
 have k2' : znM (mk (h + W) f) = _ := k2
 have m1' : zii (mk (h + W) f) (h : Int) = _ := m1
 have m2' : zj6 (mk (h + W) f) (h : Int) = _ := m2
 unfold zjY zjm zaT
 rw [k1', k2', m1', m2', zB, zbf (x := 0) (Int.le_refl _) (by omega), zaU (show 0 < h + W by omega), zbf (x := 1) (by decide) (by omega), zaU (show 1 < h + W by omega)]
 cases (List.range (h + W)).any fun i => !(f i == 0) with
 | false => exact ⟨_, rfl⟩
 | true =>
  cases f 0 == 1 with
  | false => exact ⟨_, rfl⟩
  | true =>
   rcases h2 with rfl | rfl
   . exact ⟨_, rfl⟩
   . by_cases c : f 1 <= 1
     . rw [decide_eq_true c, decide_eq_false (show ¬ f 1 > 1 by omega)]; exact ⟨_, rfl⟩
     . rw [decide_eq_false c, decide_eq_true (show f 1 > 1 by omega)]; exact ⟨_, rfl⟩
section
variable {N : Nat} {f : Nat -> Int} {a n : Nat}
theorem ziy (hN : N <= 100000) (h : a + n <= N) : zw0 (some ⟨mk N f⟩) (a : Int) (n : Int) = some 0 := by
 unfold zw0 zto
 have h0 : (some (⟨mk N f⟩ : MemMemory)).getD default = ⟨mk N f⟩ := rfl
 have h1 : (some (⟨mk N f⟩ : MemMemory)).isNone = false := rfl
 have h2 : (some (⟨mk N f⟩ : MemMemory)).isSome = true := rfl
 have ew : i64.wrap ((N : Int) - (a : Int)) = (N : Int) - (a : Int) := zaO _ (by omega) (by omega)
 rw [h1, h2, h0, cnF, decide_eq_false (show ¬ ((a : Int) < 0) by omega), cnF, decide_eq_false (show ¬ ((n : Int) < 0) by omega), cnF, cnT, zB, decide_eq_false (show ¬ ((a : Int) > (N : Int)) by omega), cnF, cnT, ew, decide_eq_false (show ¬ ((n : Int) > (N : Int) - (a : Int)) by omega)]
 rfl
theorem zse (hN : N <= 100000) (h : a + n <= N) : zq8 (some ⟨mk N f⟩) (a : Int) (n : Int) = some (mk n fun i => f (a + i), 0) := by
 obtain ⟨k1, k2⟩ := zk (ziy (f := f) hN h)
 have k1' : zfg (some ⟨mk N f⟩) (a : Int) (n : Int) = 0 := k1
 have k2' : zft (some ⟨mk N f⟩) (a : Int) (n : Int) = true := k2
 have h0 : (some (⟨mk N f⟩ : MemMemory)).getD default = ⟨mk N f⟩ := rfl
 unfold zq8 zlS
 rw [k1', k2', cnT, h0]
 show cond (decide ((n : Int) = n) && decide (0 <= (n : Int)) && leB ((n : Int).toNat * 4) 140737488355328) _ _ = _
 rw [mkT (by omega) (by omega) (by decide), cnT]
 show cond (inS (a : Int) ((mk N f).length : Int) (mk N f).length) _ _ = _
 rw [zB, inS_iff.2 ⟨by omega, by omega, by omega⟩, cnT, tnC, tnC, tnC, zbm (Nat.le_refl _), zcf, List.length_replicate, zbm (by omega), znP (by rw [zB, List.length_replicate])]
 rfl
end
section
variable {N : Nat} {f : Nat -> Int} (hf : U32 f) {a W : Nat}
include hf
theorem zGu (hN : N <= 100000) {h : Nat} (h2 : h = 2 ∨ h = 3) (hW : W <= 16) (ha : a + (h + W) <= N) : ∃ r, zjX (some ⟨mk N f⟩) (a : Int) (W : Int) (h : Int) = some (r, cond (zaT (fun i => f (a + i)) h W) 0 191) := by
 have e : i64.wrap ((h : Int) + (W : Int)) = ((h + W : Nat) : Int) := zr _ _ (by omega) (by omega)
 obtain ⟨k1, k2⟩ := zk (zse (f := f) hN ha)
 have k1' : zci (some ⟨mk N f⟩) (a : Int) ((h + W : Nat) : Int) = _ := k1
 have k2' : zc1 (some ⟨mk N f⟩) (a : Int) ((h + W : Nat) : Int) = true := k2
 obtain ⟨r, hr⟩ := zJ2 (hf.sh a) h2 hW
 obtain ⟨m1, m2⟩ := zk hr
 have m1' : zf6 (mk (h + W) fun i => f (a + i)) (h : Int) = _ := m1
 have m2' : zhB (mk (h + W) fun i => f (a + i)) (h : Int) = true := m2
 unfold zjX zjj
 rw [e, k2', k1']
 show ∃ r, cond (zhB (mk (h + W) fun i => f (a + i)) (h : Int)) (cond (!(zf6 (mk (h + W) fun i => f (a + i)) (h : Int)).2) (some ([], 191)) (some ((zf6 (mk (h + W) fun i => f (a + i)) (h : Int)).1, 0))) none = _
 rw [m2', m1']
 cases zaT (fun i => f (a + i)) h W with
 | false => exact ⟨_, rfl⟩
 | true => exact ⟨_, rfl⟩
theorem ztP (m : MemMemory) (h1 : 1 <= W) (hW : W <= 16) : zev (some m) (W : Int) = 0 := by
 unfold zev zjW zji
 rw [decide_eq_false (show ¬ ((W : Int) < 1) by omega), decide_eq_false (show ¬ ((W : Int) > 16) by omega)]; rfl
theorem zzr (hN : N <= 100000) (h1 : 1 <= W) (hW : W <= 16) (ha : a + (2 + W) <= N) : ∃ r, zrw (some ⟨mk N f⟩) (a : Int) (W : Int) = some (r, cond (zaT (fun i => f (a + i)) 2 W) 0 191) := by
 obtain ⟨r, hr⟩ := zGu hf hN (.inl rfl) hW ha
 obtain ⟨k1, k2⟩ := zk hr
 have k1' : za4 (some ⟨mk N f⟩) (a : Int) (W : Int) 2 = _ := k1
 have k2' : zcA (some ⟨mk N f⟩) (a : Int) (W : Int) 2 = true := k2
 unfold zrw zmi
 rw [ztP hf _ h1 hW, k1', k2']
 exact ⟨_, rfl⟩
end
def zoc (f : Nat -> Int) (W : Nat) : Bool := decide (f 0 <= (W : Int)) && !((List.range (W - (f 0).toNat)).any fun i => !(f (1 + (f 0).toNat + i) == 0))
theorem zFH {f : Nat -> Int} {W : Nat} (h : ¬ f 0 <= (W : Int)) : zoc f W = false := by unfold zoc; rw [decide_eq_false h]; rfl
theorem zyU {f : Nat -> Int} (hf : U32 f) {W : Nat} (hW : W <= 16) : zrg (mk (1 + W) f) = some (cond (zoc f W) (mk (f 0).toNat fun i => f (1 + i)) [], zoc f W) := by
 have e1 : i64.wrap (((1 + W : Nat) : Int) - 1) = ((W : Nat) : Int) := zr _ _ (by omega) (by omega)
 have e2 : u32.wrap ((W : Nat) : Int) = ((W : Nat) : Int) := zdO (by omega) (by omega)
 obtain ⟨n0, n1⟩ := hf 0
 unfold zrg zja
 rw [zB, zbf (x := 0) (Int.le_refl _) (by omega), cnT, zaU (show 0 < 1 + W by omega), e1, e2]
 by_cases c : f 0 > (W : Int)
 . rw [decide_eq_true c, zFH (by omega)]; rfl
 . have e3 : u32.wrap (1 + f 0) = 1 + f 0 := zdO (by omega) (by omega)
   obtain ⟨n, hn⟩ : ∃ n : Nat, f 0 = (n : Int) := ⟨(f 0).toNat, by omega⟩
   have e4 : (1 + f 0).toNat = 1 + n := by omega
   have e5 : ((mk (1 + W) f).take (1 + W)).drop (1 + n) = mk (W - n) fun i => f (1 + n + i) := by
    rw [zbm (Nat.le_refl _), zcf, show 1 + W - (1 + n) = W - n by omega]
   have hm : zoc f W = !((List.range (W - n)).any fun i => !(f (1 + n + i) == 0)) := by
    unfold zoc; rw [hn, tnC, decide_eq_true (show (n : Int) <= (W : Int) by omega)]; rfl
   rw [decide_eq_false c, cnF, e3, inS_iff.2 ⟨by omega, by omega, by omega⟩, cnT]
   have hl := zaf (n := W - n) (f := fun i => zqR (mk (1 + W) f) (.l0 (i : Int))) (q := fun i => !(f (1 + n + i) == 0)) (r := some ([], false)) (e := some (mk n (fun i => f (1 + i)), true)) (fun i hi => by
    rw [zpL]
    simp only [zeV, zB, zaU (show 0 < 1 + W by omega), e3, e4, tnC, e5, zR hi, cnT, zh hi, zaU hi, zf i (by omega), id]) (by
    rw [zpL]
    have e6 : ((mk (1 + W) f).take (1 + n)).drop 1 = mk n fun i => f (1 + i) := by rw [zbm (by omega), zcf, Nat.add_sub_cancel_left]
    simp only [zeV, zB, zaU (show 0 < 1 + W by omega), e3, e4, tnC, e5, zS (Nat.le_refl _), cnF, e6, List.length_nil, List.nil_append, id]
    rw [inS_iff.2 ⟨by omega, by omega, by omega⟩, cnT, zbc (by omega), cnT])
   rw [hm, hn, tnC]
   refine hl.trans ?_
   cases (List.range (W - n)).any fun i => !(f (1 + n + i) == 0) <;> rfl
def okQ (f : Nat -> Int) (W D first : Nat) (many : Int) (i : Nat) : Bool := zoc (fun j => f ((first + i) % D * (1 + W) + j)) W && (decide ((i : Int) < many) == decide (f ((first + i) % D * (1 + W)) > 0))
def zgR (f : Nat -> Int) (W D first : Nat) (many : Int) : Bool := !((List.range D).any fun i => !(okQ f W D first many i))
theorem zAh (a b : Nat) : dv .rem .i64 (a : Int) (b : Int) = ((a % b : Nat) : Int) := by
 show Int.tmod (a : Int) (b : Int) = _
 rw [Int.tmod_eq_emod_of_nonneg (Int.natCast_nonneg a)]
 exact (Int.natCast_emod a b).symm
section
variable {f : Nat -> Int} (hf : U32 f) {W D : Nat} (hW : W <= 16) (hD1 : 1 <= D) (hD : D <= 8)
include hf hW hD1 hD
theorem zBg {first i : Nat} : (first + i) % D * (1 + W) + (1 + W) <= D * (1 + W) /\ D * (1 + W) <= 136 := by
 have h1 := Nat.mod_lt (first + i) (show D > 0 by omega)
 have h2 : ((first + i) % D + 1) * (1 + W) <= D * (1 + W) := Nat.mul_le_mul_right _ h1
 rw [Nat.add_mul, Nat.one_mul] at h2
 exact ⟨h2, Nat.le_trans (Nat.mul_le_mul hD (show 1 + W <= 17 by omega)) (by decide)⟩
end
def zhn (f : Nat -> Int) (W D : Nat) : Bool := decide (f 0 <= (D : Int)) && zgR (fun i => f (1 + i)) W D 0 (f 0)
def zd4 (f : Nat -> Int) (W D : Nat) : Bool := decide (f 0 < (D : Int)) && (decide (f 1 <= (D : Int)) && ((decide (f 1 > 0) || (f 0 == 0)) && zgR (fun i => f (3 + i)) W D (f 0).toNat (f 1)))
section
variable {f : Nat -> Int} (hf : U32 f) {W D : Nat} (hW1 : 1 <= W) (hW : W <= 16) (hD1 : 1 <= D) (hD : D <= 8) {N a : Nat} (hN : N <= 100000)
include hf hW1 hW hD1 hD hN
theorem dw : i64.wrap ((D : Int) * i64.wrap (1 + (W : Int))) = ((D * (1 + W) : Nat) : Int) /\ D * (1 + W) <= 136 := by
 have h2 := (zBg hf hW hD1 hD (first := 0) (i := 0)).2
 refine ⟨?_, h2⟩
 rw [zr (1 + (W : Int)) (1 + W) (by omega) (by omega)]
 exact zr _ _ (Int.natCast_mul _ _).symm (by omega)
theorem zzQ (h : Nat) (hh : h <= 3) : zbt ⟨(W : Int), (D : Int)⟩ (h : Int) = ((h + D * (1 + W) : Nat) : Int) := by
 obtain ⟨d1, d2⟩ := dw hf hW1 hW hD1 hD hN
 show i64.wrap ((h : Int) + i64.wrap ((D : Int) * i64.wrap (1 + (W : Int)))) = _
 rw [d1]; exact zr _ _ (by omega) (by omega)
theorem zk7 (m : MemMemory) : zer (some m) ⟨(W : Int), (D : Int)⟩ = 0 := by
 unfold zer zjN ziQ
 have h1 : (some m).isNone = false := rfl
 rw [h1, cnF]
 show Option.getD (cond (decide ((W : Int) < 1)) (some (id 1)) (cond (decide ((W : Int) > 16)) (some (id 1)) (cond (decide ((D : Int) < 1)) (some (id 1)) (cond (decide ((D : Int) > 8)) (some (id 1)) (some (id 0)))))) default = (0 : Int)
 rw [decide_eq_false (show ¬ ((W : Int) < 1) by omega), decide_eq_false (show ¬ ((W : Int) > 16) by omega), decide_eq_false (show ¬ ((D : Int) < 1) by omega), decide_eq_false (show ¬ ((D : Int) > 8) by omega)]; rfl
theorem zlj (h : Nat) (hh : h <= 3) (ha : a + (h + D * (1 + W)) <= N) : zqU ⟨(W : Int), (D : Int)⟩ (some ⟨mk N f⟩) (a : Int) (h : Int) = some true := by
 obtain ⟨k1, k2⟩ := zk (zse (f := f) hN ha)
 have k1' : zci (some ⟨mk N f⟩) (a : Int) ((h + D * (1 + W) : Nat) : Int) = _ := k1
 have k2' : zc1 (some ⟨mk N f⟩) (a : Int) ((h + D * (1 + W) : Nat) : Int) = true := k2
 unfold zqU zlB
 rw [zzQ hf hW1 hW hD1 hD hN h hh, k1', k2']; rfl
end
def over (f : Nat -> Int) (a n : Nat) (g : Nat -> Int) (i : Nat) : Int := if a <= i /\ i < a + n then g (i - a) else f i
theorem zdf {f g : Nat -> Int} {a n i : Nat} (h : i < n) : over f a n g (a + i) = g i := by
 unfold over; rw [if_pos ⟨by omega, by omega⟩, Nat.add_sub_cancel_left]
theorem zaD {f g : Nat -> Int} {a n i : Nat} (h : ¬ (a <= i /\ i < a + n)) : over f a n g i = f i := by unfold over; rw [if_neg h]
theorem zcX {f g : Nat -> Int} {a n : Nat} (hf : U32 f) (hg : ∀ i, i < n -> 0 <= g i /\ g i < 4294967296) : U32 (over f a n g) := fun i => by
 unfold over
 split
 . rename_i h; exact hg _ (by omega)
 . exact hf i
section
variable {N : Nat} {f : Nat -> Int} {a n : Nat}
theorem zAD (hN : N <= 100000) (h : a + n <= N) (g : Nat -> Int) : zra (a : Int) (mk n g) (mk N f) = some (0, ⟨mk N (over f a n g)⟩) := by
 obtain ⟨k1, k2⟩ := zk (ziy (f := f) hN h)
 have k1' : zfg (some ⟨mk N f⟩) (a : Int) (n : Int) = 0 := k1
 have k2' : zft (some ⟨mk N f⟩) (a : Int) (n : Int) = true := k2
 have e : zbP (mk N f) a (List.take (N - a) (mk n g)) = mk N (over f a n g) := by
  rw [List.take_of_length_le (by rw [zB]; omega), ziw h]
  rfl
 unfold zra zi4
 rw [zB, zB, k1', k2', cnT, inS_iff.2 ⟨by omega, by omega, by omega⟩, cnT, tnC, tnC, e, zzn]
 simp only [zfB, zB, k1', id]
 rfl
theorem zGY (hN : N <= 100000) (h : a + 1 <= N) (x : Int) : zwS (a : Int) x (mk N f) = some (0, ⟨mk N (over f a 1 fun _ => x)⟩) := by
 obtain ⟨k1, k2⟩ := zk (ziy (f := f) hN h)
 have k1' : zfg (some ⟨mk N f⟩) (a : Int) 1 = 0 := k1
 have k2' : zft (some ⟨mk N f⟩) (a : Int) 1 = true := k2
 have e : List.set (mk N f) a x = mk N (over f a 1 fun _ => x) := by
  rw [zfV (by omega)]
  refine zd1 fun i hi => ?_
  unfold over
  by_cases hia : i = a
  . rw [if_pos hia, if_pos (by omega)]
  . rw [if_neg hia, if_neg (by omega)]
 unfold zwS zox
 rw [k1', k2', cnT, zB, zh (show a < N by omega), cnT, tnC, e, zBE]
 simp only [zke, k1', id]
 rfl
theorem zIK (hN : N <= 100000) (h : a + n <= N) (x : Int) : zrB (a : Int) (n : Int) x (mk N f) = some (0, ⟨mk N (over f a n fun _ => x)⟩) := by
 obtain ⟨k1, k2⟩ := zk (ziy (f := f) hN h)
 have k1' : zfg (some ⟨mk N f⟩) (a : Int) (n : Int) = 0 := k1
 have k2' : zft (some ⟨mk N f⟩) (a : Int) (n : Int) = true := k2
 have hl := zz (n := n) (f := fun i (xs : List Int) => zhx (a : Int) (n : Int) x (mk N f) (.l0 (i : Int) xs)) (S := fun i => mk N (over f a i fun _ => x)) (fun i hi => by
  rw [zpN]
  have e1 : i64.wrap ((a : Int) + (i : Int)) = ((a + i : Nat) : Int) := zr _ _ (by omega) (by omega)
  have e2 : List.set (mk N (over f a i fun _ => x)) (a + i) x = mk N (over f a (i + 1) fun _ => x) := by
   rw [zfV (by omega)]
   refine zd1 fun j hj => ?_
   unfold over
   by_cases hja : j = a + i
   . rw [if_pos hja, if_pos (by omega)]
   . rw [if_neg hja]
     by_cases hr : a <= j /\ j < a + i
     . rw [if_pos hr, if_pos (by omega)]
     . rw [if_neg hr, if_neg (by omega)]
  simp only [zeX, zR hi, cnT, e1, zB, zh (show a + i < N by omega), tnC, e2, zf i (by omega)])
 have e0 : mk N (over f a 0 fun _ => x) = mk N f := zd1 fun i hi => zaD (by omega)
 unfold zrB zjl
 rw [k1', k2', cnT]
 show zhx (a : Int) (n : Int) x (mk N f) (.l0 0 (mk N f)) = _
 have hl' : zhx (a : Int) (n : Int) x (mk N f) (.l0 0 (mk N f)) = zhx (a : Int) (n : Int) x (mk N f) (.l0 (n : Int) (mk N (over f a n fun _ => x))) := by
  have := hl
  rw [e0] at this
  exact this
 rw [hl', zpN]
 simp only [zeX, zS (Nat.le_refl n), cnF, id]
end
def zAX (f : Nat -> Int) (h W : Nat) : List Int := cond (zcw f h W) (mk (f (h - 1)).toNat fun i => f (h + i)) []
theorem zyV {f : Nat -> Int} (hf : U32 f) {h W : Nat} (h1 : 1 <= h) (h3 : h <= 3) (hW : W <= 16) : zjZ (mk (h + W) f) (h : Int) = some (zAX f h W, zcw f h W) := by
 have e1 : i64.wrap ((h : Int) - 1) = ((h - 1 : Nat) : Int) := zr _ _ (by omega) (by omega)
 have e2 : zN (mk (h + W) f) (h - 1) = f (h - 1) := zaU (by omega) f
 have e3 : (List.take ((h + W : Nat) : Int).toNat (mk (h + W) f)).drop (h : Int).toNat = mk W fun i => f (h + i) := by
  simp only [tnC]
  rw [zbm (Nat.le_refl _), zcf, Nat.add_sub_cancel_left]
 unfold zjZ zhb
 simp only [zB, e1, tnC, e2, hf.w64, zh (show h - 1 < h + W by omega), cnT]
 have e3' : (List.take (h + W) (mk (h + W) f)).drop h = mk W fun i => f (h + i) := by simpa only [tnC] using e3
 rw [inS_iff.2 ⟨by omega, by omega, by omega⟩, cnT, e3', zB]
 obtain ⟨n0, n1⟩ := hf (h - 1)
 by_cases c1 : f (h - 1) < 1
 . rw [decide_eq_true c1, cnT]
   have : zcw f h W = false := by unfold zcw; rw [decide_eq_false (show ¬ 1 <= f (h - 1) by omega)]; rfl
   unfold zAX
   rw [this]; rfl
 . rw [decide_eq_false c1, cnF]
   by_cases c2 : f (h - 1) > (W : Int)
   . rw [decide_eq_true c2, cnT]
     have : zcw f h W = false := by unfold zcw; rw [decide_eq_false (show ¬ f (h - 1) <= (W : Int) by omega), Bool.and_false]; rfl
     unfold zAX
     rw [this]; rfl
   . rw [decide_eq_false c2, cnF, inS_iff.2 ⟨by omega, by omega, by omega⟩, cnT]
     have en : (((f (h - 1)).toNat : Nat) : Int) = f (h - 1) := by omega
     have e4 : ((((mk (h + W) f).take ((h + W : Nat) : Int).toNat).drop (h : Int).toNat).take ((((mk (h + W) f).take ((h + W : Nat) : Int).toNat).drop (h : Int).toNat).length : Int).toNat).drop (f (h - 1)).toNat = mk (W - (f (h - 1)).toNat) fun i => f (h + (f (h - 1)).toNat + i) := by
      rw [e3, zB, tnC, zbm (Nat.le_refl _), zcf]
      exact zd1 fun i hi => congrArg f (by omega)
     have hl := zaf (n := W - (f (h - 1)).toNat) (f := fun i => znd (mk (h + W) f) (h : Int) (.l0 (i : Int))) (q := fun i => !(f (h + (f (h - 1)).toNat + i) == 0)) (r := some ([], false)) (e := some (mk (f (h - 1)).toNat (fun i => f (h + i)), true)) (fun i hi => by
      rw [zgL]
      simp only [zdA, e1, tnC, e2, hf.w64]
      have e4' := e4
      simp only [tnC, zB] at e4' ⊢
      rw [e4', zB, zR hi, cnT, zh hi, cnT, zaU hi, zf i (by omega)]; rfl) (by
      rw [zgL]
      simp only [zdA, e1, tnC, e2, hf.w64]
      have e4' := e4
      simp only [tnC, zB] at e4' ⊢
      rw [e4', zB, zS (Nat.le_refl _), cnF]
      rw [zKd (show 0 <= f (h - 1) by omega) (by omega) (by decide), cnT, e3', List.length_replicate, zbm (by omega), znP (by rw [zB, List.length_replicate])]; rfl)
     refine hl.trans ?_
     have : zcw f h W = !((List.range (W - (f (h - 1)).toNat)).any fun i => !(f (h + (f (h - 1)).toNat + i) == 0)) := by
      unfold zcw; rw [decide_eq_true (show 1 <= f (h - 1) by omega), decide_eq_true (show f (h - 1) <= (W : Int) by omega)]; rfl
     unfold zAX
     rw [this]
     cases (List.range (W - (f (h - 1)).toNat)).any fun i => !(f (h + (f (h - 1)).toNat + i) == 0) <;> rfl
def zoU (f : Nat -> Int) (h W : Nat) : Bool := (f 0 == 1) && (!(h == 3) || decide (f 1 <= 1)) && zcw f h W
def zc3 (f : Nat -> Int) (h W : Nat) : List Int := cond ((List.range (h + W)).any fun i => !(f i == 0)) (cond (zoU f h W) (mk (f (h - 1)).toNat fun i => f (h + i)) []) []
theorem zJ3 {f : Nat -> Int} (hf : U32 f) {h W : Nat} (h2 : h = 2 ∨ h = 3) (hW : W <= 16) : zjY (mk (h + W) f) (h : Int) = some (zc3 f h W, zaT f h W) := by
 obtain ⟨k1, k2⟩ := zk (zv1 (K := h + W) (by omega) f)
 obtain ⟨m1, m2⟩ := zk (zyV hf (h := h) (W := W) (by omega) (by omega) hW)
 have k1' : zub (mk (h + W) f) = _ := k1
 have k2' : znM (mk (h + W) f) = _ := k2
 have m1' : zii (mk (h + W) f) (h : Int) = _ := m1
 have m2' : zj6 (mk (h + W) f) (h : Int) = _ := m2
 unfold zjY zjm zaT zc3 zoU
 rw [k1', k2', m1', m2', zB, zbf (x := 0) (Int.le_refl _) (by omega), zaU (show 0 < h + W by omega), zbf (x := 1) (by decide) (by omega), zaU (show 1 < h + W by omega)]
 unfold zAX
 cases (List.range (h + W)).any fun i => !(f i == 0) with
 | false => rfl
 | true =>
  cases f 0 == 1 with
  | false => rfl
  | true =>
   rcases h2 with rfl | rfl
   . cases zcw f 2 W <;> rfl
   . by_cases c : f 1 <= 1
     . rw [decide_eq_true c, decide_eq_false (show ¬ f 1 > 1 by omega)]; cases zcw f 3 W <;> rfl
     . rw [decide_eq_false c, decide_eq_true (show f 1 > 1 by omega)]; rfl
section
variable {N : Nat} {f : Nat -> Int} (hf : U32 f) {a W : Nat}
include hf
theorem zix (hN : N <= 100000) {h : Nat} (h2 : h = 2 ∨ h = 3) (hW : W <= 16) (ha : a + (h + W) <= N) : zjX (some ⟨mk N f⟩) (a : Int) (W : Int) (h : Int) = some (cond (zaT (fun i => f (a + i)) h W) (zc3 (fun i => f (a + i)) h W) [], cond (zaT (fun i => f (a + i)) h W) 0 191) := by
 have e : i64.wrap ((h : Int) + (W : Int)) = ((h + W : Nat) : Int) := zr _ _ (by omega) (by omega)
 obtain ⟨k1, k2⟩ := zk (zse (f := f) hN ha)
 have k1' : zci (some ⟨mk N f⟩) (a : Int) ((h + W : Nat) : Int) = _ := k1
 have k2' : zc1 (some ⟨mk N f⟩) (a : Int) ((h + W : Nat) : Int) = true := k2
 obtain ⟨m1, m2⟩ := zk (zJ3 (hf.sh a) h2 hW)
 have m1' : zf6 (mk (h + W) fun i => f (a + i)) (h : Int) = _ := m1
 have m2' : zhB (mk (h + W) fun i => f (a + i)) (h : Int) = true := m2
 unfold zjX zjj
 rw [e, k2', k1']
 show cond (zhB (mk (h + W) fun i => f (a + i)) (h : Int)) (cond (!(zf6 (mk (h + W) fun i => f (a + i)) (h : Int)).2) (some ([], 191)) (some ((zf6 (mk (h + W) fun i => f (a + i)) (h : Int)).1, 0))) none = _
 rw [m2', m1']
 cases zaT (fun i => f (a + i)) h W <;> rfl
theorem ztB (F : Nat) (hF : F <= 1024) : zwW (some ⟨mk (16 * F) f⟩) = some (F : Int) := by
 unfold zwW ztk
 have e : bop .quo .i64 ((16 * F : Nat) : Int) 16 = (F : Int) := by
  show i64.wrap (Int.tdiv ((16 * F : Nat) : Int) 16) = _
  rw [Int.tdiv_eq_ediv_of_nonneg (by omega)]
  exact (congrArg i64.wrap (by omega)).trans (zaO (F : Int) (by omega) (by omega))
 have h0 : (some (⟨mk (16 * F) f⟩ : MemMemory)).getD default = ⟨mk (16 * F) f⟩ := rfl
 have h1 : (some (⟨mk (16 * F) f⟩ : MemMemory)).isNone = false := rfl
 have h2 : (some (⟨mk (16 * F) f⟩ : MemMemory)).isSome = true := rfl
 rw [h0, h1, h2, zB, e]
 rfl
theorem znS {F n : Nat} (hF : F <= 1024) (ha : a + n <= 16 * F) : zrz (some ⟨mk (16 * F) f⟩) (a : Int) (n : Int) = some 0 := by
 obtain ⟨k1, k2⟩ := zk (ztB hf F hF)
 have k1' : zzf (some ⟨mk (16 * F) f⟩) = (F : Int) := k1
 have k2' : zp7 (some ⟨mk (16 * F) f⟩) = true := k2
 have e1 : i64.wrap ((F : Int) * 16) = (F : Int) * 16 := zaO _ (by omega) (by omega)
 have e2 : i64.wrap ((F : Int) * 16 - (n : Int)) = (F : Int) * 16 - (n : Int) := zaO _ (by omega) (by omega)
 unfold zrz zml
 rw [k1', k2', e1, e2, decide_eq_false (show ¬ (a : Int) < 0 by omega), cnF, cnT, decide_eq_false (show ¬ (a : Int) > (F : Int) * 16 - (n : Int) by omega)]
 rfl
end
end Go.Proofs.YtganhedldgbfpaaGreatDoor
end
