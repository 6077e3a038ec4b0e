import Derived.Test.YtgfifnadfmaolaaGreatDoorQ1
import Derived.Test.YtgfifnadfmaolaaGreatDoorD
set_option linter.unusedVariables false
set_option linter.unusedSimpArgs false
set_option linter.unusedSectionVars false
noncomputable section
open Go.IntKind (i64 u32)
namespace Go.Proofs.YtgfifnadfmaolaaGreatDoor
open Go.RowKit
theorem zi (i : Nat) (h : i < 4611686018427387904) : i64.wrap ((i : Int) + 1) = ((i + 1 : Nat) : Int) := by rw [z9 _ (by omega) (by omega)]; omega
theorem zQ {i n : Nat} (h : i < n) : decide ((i : Int) < (n : Int)) = true := decide_eq_true (by omega)
theorem zR {i n : Nat} (h : n <= i) : decide ((i : Int) < (n : Int)) = false := decide_eq_false (by omega)
theorem zz {σ R : Type} {n : Nat} {f : Nat -> σ -> Option R} {S : Nat -> σ} (hs : ∀ i, i < n -> f i (S i) = f (i + 1) (S (i + 1))) : f 0 (S 0) = f n (S n) := by
 have : ∀ k, k <= n -> f 0 (S 0) = f k (S k) := by
  intro k
  induction k with
  | zero => intro _; rfl
  | succ k ih => intro h; rw [ih (by omega), hs k (by omega)]
 exact this n (Nat.le_refl _)
theorem zaj {R : Type} {n : Nat} {f : Nat -> Option R} {q : Nat -> Bool} {r e : Option R} (hs : ∀ i, i < n -> f i = cond (q i) r (f (i + 1))) (he : f n = e) : f 0 = cond ((List.range n).any q) r e := by
 have : ∀ k i, i + k = n -> f i = cond ((List.range' i k).any q) r e := by
  intro k
  induction k with
  | zero => intro i h; simp at h; subst h; simpa using he
  | succ k ih =>
   intro i h
   rw [hs i (by omega), ih (i + 1) (by omega), List.range'_succ, List.any_cons]
   cases q i <;> rfl
 have h := this n 0 (by omega)
 rwa [← List.range_eq_range'] at h
theorem any_t {n : Nat} {q : Nat -> Bool} : (List.range n).any q = true ↔ ∃ i, i < n /\ q i = true := by simp
theorem any_f {n : Nat} {q : Nat -> Bool} : (List.range n).any q = false ↔ ∀ i, i < n -> q i = false := by simp
theorem zp1 {n : Nat} {q q' : Nat -> Bool} (h : ∀ i, i < n -> q i = q' i) : (List.range n).any q = (List.range n).any q' := by
 rw [Bool.eq_iff_iff, any_t, any_t]
 exact ⟨fun ⟨i, hi, hq⟩ => ⟨i, hi, by rw [← h i hi]; exact hq⟩, fun ⟨i, hi, hq⟩ => ⟨i, hi, by rw [h i hi]; exact hq⟩⟩
theorem zw {R : Type} [Inhabited R] {o : Option R} {r : R} (h : o = some r) : o.getD default = r /\ o.isSome = true := by subst h; exact ⟨rfl, rfl⟩
def B47 : Nat := 140737488351232
def I64 (n : Int) : Prop := -9223372036854775808 <= n /\ n < 9223372036854775808
structure zbu (c : Config) : Prop where
 frames : I64 c.frames
 kernel : I64 c.kernel
 room : I64 c.room
 cores : c.cores.length * 24 <= B47
 core : ∀ i, i < c.cores.length -> (zK c.cores i).length * 24 <= B47
 parts : c.partitions.length * 104 <= B47
 regions : ∀ i, i < c.partitions.length -> (za c.partitions i).regions.length * 32 <= B47
 ports : ∀ i, i < c.partitions.length -> (za c.partitions i).ports.length * 16 <= B47
 name : ∀ i, i < c.partitions.length -> (za c.partitions i).name.size <= maxLen
 chans : c.channels.length * 24 <= B47
 region : ∀ i k, i < c.partitions.length -> k < (za c.partitions i).regions.length -> I64 (zh (za c.partitions i).regions k).frame /\ I64 (zh (za c.partitions i).regions k).pages
theorem zhO {n : Int} (h : Fit (.v (.int .i64 n))) : I64 n := by
 cases h with
 | int _ _ h0 h1 =>
  simp [IntKind.min, IntKind.max, IntKind.signed, IntKind.bits] at h0 h1
  exact ⟨by omega, by omega⟩
theorem zfR {t : Ty} {xs : List t.T} (h : Fit (.sl t xs)) : xs.length * t.by <= B47 /\ ∀ i j, i < xs.length -> j < t.sz -> Fit ((t.enc (nth xs i)).getD j .undef) := by
 cases h with
 | sl _ _ hl h => exact ⟨hl, h⟩
theorem zEY {s : ByteArray} (h : Fit (.v (.string s))) : s.size <= maxLen := by
 cases h with
 | str _ h => exact h
theorem fitC {c : Config} (h : ∀ j, j < Ty.sz .sConfig -> Fit ((Ty.enc .sConfig c).getD j .undef)) : zbu c := by
 obtain ⟨k1, k2⟩ := zfR (t := .sl .sWindow) (xs := c.cores) (h 4 (by decide))
 obtain ⟨k3, k4⟩ := zfR (t := .sPartition) (xs := c.partitions) (h 5 (by decide))
 obtain ⟨k5, _⟩ := zfR (t := .sChannel) (xs := c.channels) (h 6 (by decide))
 have part : ∀ i, i < c.partitions.length -> _ := fun i hi => zfR (t := .sRegion) (xs := (za c.partitions i).regions) (k4 i 6 hi (by decide))
 refine ⟨zhO (h 0 (by decide)), zhO (h 2 (by decide)), zhO (h 3 (by decide)), k1, fun i hi => (zfR (t := .sWindow) (xs := zK c.cores i) (k2 i 0 hi (by decide))).1, k3, fun i hi => (part i hi).1, fun i hi => (zfR (t := .sPort) (xs := (za c.partitions i).ports) (k4 i 7 hi (by decide))).1, fun i hi => zEY (k4 i 0 hi (by decide)), k5, fun i k hi hk => ?_⟩
 exact ⟨zhO ((part i hi).2 k 2 hk (by decide)), zhO ((part i hi).2 k 1 hk (by decide))⟩
theorem zjr (n l m : Int) : zaZ n l m = (decide (l <= n) && decide (n <= m)) := by
 refine (zw (r := (decide (l <= n) && decide (n <= m))) ?_).1
 unfold zpD zoC
 by_cases h : l <= n <;> simp [h]
theorem zeZ (n l m : Int) : zY n l m = (decide (l <= n) && decide (n <= m)) := by
 refine (zw (r := (decide (l <= n) && decide (n <= m))) ?_).1
 unfold zjT zi1
 by_cases h : l <= n <;> simp [h]
theorem ziH {α : Type} (xs : List α) (z y : α) {i : Nat} (hi : i < xs.length) (hy : y = xs[i]) : List.set (xs.take i ++ List.replicate (xs.length - i) z) i y = xs.take (i + 1) ++ List.replicate (xs.length - (i + 1)) z := by
 subst hy
 apply List.ext_getElem
 . simp; omega
 . intro j h1 h2
   simp at h1
   simp only [List.getElem_set, List.getElem_append, List.length_take, List.getElem_take, List.getElem_replicate]
   by_cases hj : i = j
   . subst hj
     rw [if_pos rfl, dif_pos (by omega)]
   . rw [if_neg hj]
     by_cases hji : j < i
     . rw [dif_pos (by omega), dif_pos (by omega)]
     . rw [dif_neg (by omega), dif_neg (by omega)]
theorem zlh {α : Type} (xs : List α) (z : α) {i : Nat} (hi : i <= xs.length) : (xs.take i ++ List.replicate (xs.length - i) z).length = xs.length := by simp; omega
theorem zEH {xs : List (List Window)} {i : Nat} (h : i < xs.length) : zK xs i = xs[i] := by simp [zK, List.getD, h]
theorem zEG {xs : List Partition} {i : Nat} (h : i < xs.length) : za xs i = xs[i] := by simp [za, List.getD, h]
theorem zaO {a b : Nat} (h : a <= b) : leB a b = true := by simpa only [leB, Nat.ble_eq] using h
theorem zfT (n b : Nat) (h : n * b <= B47) : (decide ((n : Int) = n) && decide (0 <= n) && leB ((n : Int).toNat * b) 140737488355328) = true := by
 unfold B47 at h
 rw [zW, zaO (by omega)]
 simp
theorem zGk (n b : Nat) (h : n * b <= B47) : (decide True && decide (0 <= n) && leB ((n : Int).toNat * b) 140737488355328) = true := by
 unfold B47 at h
 rw [zW, zaO (by omega)]
 simp
theorem zzB {c : Config} (hc : zbu c) : zHl c = some c := by
 have h1 := zz (n := c.cores.length) (f := fun i s => zCt c (.l0 (i : Int) s)) (S := fun i => c.cores.take i ++ List.replicate (c.cores.length - i) []) (fun i hi => by
  have hl := hc.core i hi
  have hlen := hc.cores
  unfold B47 at hl hlen
  rw [zk1]
  have e1 : leB ((([] : List Window).length + (zK c.cores i : List Window).length) * 24) 140737488355328 = true := zaO (by simp only [List.length_nil]; omega)
  simp only [zk8, zQ hi, cnT, zm hi, zW, e1, zlh c.cores [] (Nat.le_of_lt hi), zi i (by omega)]
  rw [ziH c.cores [] _ hi (by rw [List.nil_append, zEH hi])])
 have h2 := zz (n := c.partitions.length) (f := fun i s => zCt c (.l4 (i : Int) c.cores s)) (S := fun i => c.partitions.take i ++ List.replicate (c.partitions.length - i) (⟨(ByteArray.mk #[]), 0, 0, 0, 0, 0, [], []⟩ : Partition)) (fun i hi => by
  have hl := hc.regions i hi
  have hl' := hc.ports i hi
  have hlen := hc.parts
  unfold B47 at hl hl' hlen
  rw [zk1]
  have e1 : leB ((([] : List Region).length + ((za c.partitions i).regions : List Region).length) * 32) 140737488355328 = true := zaO (by simp only [List.length_nil]; omega)
  have e2 : leB ((([] : List Port).length + ((za c.partitions i).ports : List Port).length) * 16) 140737488355328 = true := zaO (by simp only [List.length_nil]; omega)
  simp only [zk8, zQ hi, cnT, zm hi, zW, e1, e2, zlh c.partitions _ (Nat.le_of_lt hi), zi i (by omega)]
  rw [ziH c.partitions _ _ hi (by rw [List.nil_append, List.nil_append, zEG hi])])
 simp only [List.take_zero, List.nil_append, Nat.sub_zero, List.take_length, Nat.sub_self, List.replicate_zero, List.append_nil] at h1 h2
 have hch := hc.chans
 have hB : B47 = 140737488351232 := rfl
 unfold zHl zzH
 rw [zfT _ _ hc.cores, cnT, zW]
 refine h1.trans ?_
 rw [zk1]
 simp only [zk8, zR (Nat.le_refl _), cnF]
 rw [zGk _ _ hc.parts, cnT, zW]
 refine h2.trans ?_
 rw [zk1]
 simp only [zk8, zR (Nat.le_refl _), cnF]
 rw [zaO (by simp only [List.length_nil]; omega), cnT]
 rfl
def zAH (b : Int) : Bool := (decide (b < 97) || decide (b > 122)) && (decide (b < 48) || decide (b > 57)) && !(b == 45)
def zty (s : ByteArray) : Bool := (List.range s.size).any fun i => zAH (zbT s i)
theorem zsj {R : Type} (b : Int) (x y : R) : cond (decide (b < 97)) (cond (decide (b < 48)) (cond (!(b == 45)) x y) (cond (decide (b > 57)) (cond (!(b == 45)) x y) y)) (cond (decide (b > 122)) (cond (decide (b < 48)) (cond (!(b == 45)) x y) (cond (decide (b > 57)) (cond (!(b == 45)) x y) y)) y) = cond (zAH b) x y := by
 unfold zAH
 cases decide (b < 97) <;> cases decide (b > 122) <;> cases decide (b < 48) <;> cases decide (b > 57) <;> cases (b == 45) <;> rfl
theorem zMI {s : ByteArray} (hs : s.size < 4611686018427387904) : zmK s (.l0 0) = some (!(zty s)) := by
 have h := zaj (n := s.size) (f := fun i => zmK s (.l0 (i : Int))) (q := fun i => zAH (zbT s i)) (r := some false) (e := some true) (fun i hi => by
  rw [zpi]
  simp only [zeH, zQ hi, cnT, zm hi, zW, zi i (by omega), id]
  exact zsj _ _ _) (by rw [zpi]; simp only [zeH, zR (Nat.le_refl _), cnF, id])
 refine h.trans ?_
 unfold zty
 cases (List.range s.size).any _ <;> rfl
theorem zMH {s : ByteArray} (hs : s.size < 4611686018427387904) : zmN s (.l0 0) = some (!(zty s)) := by
 have h := zaj (n := s.size) (f := fun i => zmN s (.l0 (i : Int))) (q := fun i => zAH (zbT s i)) (r := some false) (e := some true) (fun i hi => by
  rw [zpo]
  simp only [zeN, zQ hi, cnT, zm hi, zW, zi i (by omega), id]
  exact zsj _ _ _) (by rw [zpo]; simp only [zeN, zR (Nat.le_refl _), cnF, id])
 refine h.trans ?_
 unfold zty
 cases (List.range s.size).any _ <;> rfl
noncomputable def zqc (s : ByteArray) : Bool := cond (decide (s.size = 0)) false (cond (decide (s.size > 16)) false (cond (decide (zbT s 0 < 97)) false (cond (decide (zbT s 0 > 122)) false (!(zty s)))))
theorem zGh (s : ByteArray) : zqR s = some (zqc s) := by
 unfold zqR zi6 zqc
 have e1 : (s.toList == (ByteArray.mk #[]).toList) = decide (s.size = 0) := by
  rw [Bool.eq_iff_iff, beq_iff_eq, decide_eq_true_eq, ByteArray.toList_eq, ByteArray.toList_eq]
  constructor
  . intro h
    have h2 : s.data.toList.length = 0 := congrArg List.length h
    rw [Array.length_toList] at h2
    exact h2
  . intro h
    have h2 : s.data.toList.length = 0 := by rw [Array.length_toList]; exact h
    exact List.eq_nil_of_length_eq_zero h2
 rw [e1]
 cases h0 : decide (s.size = 0) with
 | true => rfl
 | false =>
  simp only [cnF]
  have h0' : ¬ s.size = 0 := by simpa using h0
  have e2 : decide ((s.size : Int) > 16) = decide (s.size > 16) := by rw [Bool.eq_iff_iff, decide_eq_true_eq, decide_eq_true_eq]; omega
  rw [e2]
  cases h1 : decide (s.size > 16) with
  | true => rfl
  | false =>
   have h1' : ¬ s.size > 16 := by simpa using h1
   have e3 : zN 0 s.size = true := zm (i := 0) (by omega)
   simp only [cnF, e3, cnT, id]
   rw [zMI (by omega)]
   cases decide (zbT s 0 < 97) <;> cases decide (zbT s 0 > 122) <;> rfl
theorem zGg (s : ByteArray) : zq5 s = some (zqc s) := by
 unfold zq5 zje zqc
 have e1 : decide ((s.size : Int) < 1) = decide (s.size = 0) := by rw [Bool.eq_iff_iff, decide_eq_true_eq, decide_eq_true_eq]; omega
 rw [e1]
 cases h0 : decide (s.size = 0) with
 | true => rfl
 | false =>
  simp only [cnF]
  have h0' : ¬ s.size = 0 := by simpa using h0
  have e2 : decide ((s.size : Int) > 16) = decide (s.size > 16) := by rw [Bool.eq_iff_iff, decide_eq_true_eq, decide_eq_true_eq]; omega
  rw [e2]
  cases h1 : decide (s.size > 16) with
  | true => rfl
  | false =>
   have h1' : ¬ s.size > 16 := by simpa using h1
   have e3 : zN 0 s.size = true := zm (i := 0) (by omega)
   simp only [cnF, e3, cnT, id]
   rw [zMH (by omega)]
   cases decide (zbT s 0 < 97) <;> cases decide (zbT s 0 > 122) <;> rfl
def za1 (x : AdmitFound) : Bool := ((x.e : Int) == fine.e) && ((((x.where_.first : Int) == fine.where_.first) && (((x.where_.second : Int) == fine.where_.second) && true)) && true)
theorem zoF (x : AdmitFound) : za1 x = true ↔ x = fine := by
 obtain ⟨e, f, s⟩ := x
 simp [za1, fine]
theorem zdr : za1 fine = true := (zoF _).2 rfl
theorem zkT {x : AdmitFound} (h : x.e ≠ 0) : za1 x = false := by
 cases hq : za1 x with
 | false => rfl
 | true => rw [(zoF x).1 hq] at h; exact absurd rfl h
def AnsF (o : Option AdmitFound) (b : Bool) : Prop := ∃ r, o = some r /\ (b = true -> r = fine) /\ (b = false -> r.e ≠ 0)
def zyR (o : Option Int) (b : Bool) : Prop := ∃ e, o = some e /\ (e == 0) = b
theorem AnsF.fine {b : Bool} (h : b = true) : AnsF (some fine) b := ⟨_, rfl, fun _ => rfl, fun h' => by rw [h] at h'; cases h'⟩
theorem AnsF.err {r : AdmitFound} {b : Bool} (h : b = false) (hr : r.e ≠ 0) : AnsF (some r) b := ⟨_, rfl, fun h' => by (rw [h] at h'; cases h'), fun _ => hr⟩
theorem AnsF.err' {e : Int} {w : Where} {b : Bool} (h : b = false) (hr : e ≠ 0) : AnsF (some ⟨e, w⟩) b := .err h hr
theorem znz (e : Int) (w : Where) : zr true e w = fine := rfl
theorem ziu (e : Int) (w : Where) : zr false e w = ⟨e, ⟨w.first, w.second⟩⟩ := rfl
theorem za3 {b : Bool} {e : Int} {w : Where} (he : e ≠ 0) : za1 (zr b e w) = b := by
 cases b
 . rw [ziu]; exact zkT he
 . rw [znz]; exact zdr
theorem zEF {xs : List AdmitFound} {i : Nat} (h : i < xs.length) : zc4 xs i = xs[i] := by simp [zc4, List.getD, h]
theorem zBh {l : List AdmitFound} (hl : l.length < 4611686018427387904) : ∃ r, zhs l = some r /\ ((∀ x ∈ l, za1 x = true) -> r = fine) /\ ∀ x ∈ l, za1 x = false -> za1 r = false /\ r ∈ l := by
 have key : ∀ k i, i + k = l.length -> ∃ r, zqq l (.l0 (i : Int)) = some r /\ ((∀ x ∈ l.drop i, za1 x = true) -> r = fine) /\ ∀ x ∈ l.drop i, za1 x = false -> za1 r = false /\ r ∈ l := by
  intro k
  induction k with
  | zero =>
   intro i h
   refine ⟨fine, ?_, fun _ => rfl, fun x hx => ?_⟩
   . rw [zpj]
     simp only [zeI, zR (show l.length <= i by omega), cnF, id]
   . rw [List.drop_eq_nil_of_le (by omega)] at hx; cases hx
  | succ k ih =>
   intro i h
   have hi : i < l.length := by omega
   have hd : l.drop i = l[i] :: l.drop (i + 1) := List.drop_eq_getElem_cons hi
   rw [zpj]
   simp only [zeI, zQ hi, cnT, zm hi, zW, zi i (by omega), id]
   obtain ⟨r, h1, h2, h3⟩ := ih (i + 1) (by omega)
   show ∃ r, cond (!(za1 (zc4 l i))) _ _ = some r /\ _
   rw [zEF hi]
   cases hq : za1 l[i] with
   | true =>
    refine ⟨r, h1, fun h => h2 fun x hx => h x (by rw [hd]; exact List.mem_cons_of_mem _ hx), fun x hx hf => ?_⟩
    rw [hd] at hx
    rcases List.mem_cons.1 hx with rfl | hx
    . rw [hq] at hf; cases hf
    . exact h3 x hx hf
   | false =>
    refine ⟨l[i], rfl, fun h => ?_, fun x hx hf => ⟨hq, List.getElem_mem hi⟩⟩
    have := h l[i] (by rw [hd]; exact List.mem_cons_self)
    rw [hq] at this; cases this
 obtain ⟨r, h1, h2, h3⟩ := key l.length 0 (by omega)
 exact ⟨r, h1, by simpa using h2, by simpa using h3⟩
theorem zjm (bs : List (Bool × Int × Where)) (hl : bs.length < 4611686018427387904) (he : ∀ x ∈ bs, x.2.1 ≠ 0) : AnsF (zhs (bs.map fun x => zr x.1 x.2.1 x.2.2)) (bs.all (·.1)) := by
 obtain ⟨r, h1, h2, h3⟩ := zBh (l := bs.map fun x => zr x.1 x.2.1 x.2.2) (by simpa using hl)
 refine ⟨r, h1, fun h => h2 fun x hx => ?_, fun h => ?_⟩
 . obtain ⟨y, hy, rfl⟩ := List.mem_map.1 hx
   rw [za3 (he y hy)]
   exact List.all_eq_true.1 h y hy
 . obtain ⟨y, hy, hb⟩ : ∃ y ∈ bs, y.1 = false := by
    apply Classical.byContradiction
    intro hn
    have : bs.all (·.1) = true := List.all_eq_true.2 fun y hy => by
     cases hq : y.1 with
     | true => rfl
     | false => exact absurd ⟨y, hy, hq⟩ hn
    rw [this] at h; cases h
   obtain ⟨h4, h5⟩ := h3 _ (List.mem_map.2 ⟨y, hy, rfl⟩) (by rw [za3 (he y hy)]; exact hb)
   obtain ⟨z, hz, rfl⟩ := List.mem_map.1 h5
   rw [za3 (he z hz)] at h4
   rw [h4, ziu]
   exact he z hz
theorem zKX (b1 b2 : Bool) (e1 e2 : Int) (w1 w2 : Where) (h1 : e1 ≠ 0) (h2 : e2 ≠ 0) : AnsF (zhs [zr b1 e1 w1, zr b2 e2 w2]) (b1 && b2) := by
 have := zjm [(b1, e1, w1), (b2, e2, w2)] (by simp) (by simp [h1, h2])
 simpa using this
theorem zBg (b1 b2 b3 : Bool) (e1 e2 e3 : Int) (w1 w2 w3 : Where) (h1 : e1 ≠ 0) (h2 : e2 ≠ 0) (h3 : e3 ≠ 0) : AnsF (zhs [zr b1 e1 w1, zr b2 e2 w2, zr b3 e3 w3]) (b1 && (b2 && b3)) := by
 have := zjm [(b1, e1, w1), (b2, e2, w2), (b3, e3, w3)] (by simp) (by simp [h1, h2, h3])
 simpa using this
theorem zKY (b1 b2 b3 b4 : Bool) (e1 e2 e3 e4 : Int) (w1 w2 w3 w4 : Where) (h1 : e1 ≠ 0) (h2 : e2 ≠ 0) (h3 : e3 ≠ 0) (h4 : e4 ≠ 0) : AnsF (zhs [zr b1 e1 w1, zr b2 e2 w2, zr b3 e3 w3, zr b4 e4 w4]) (b1 && (b2 && (b3 && b4))) := by
 have := zjm [(b1, e1, w1), (b2, e2, w2), (b3, e3, w3), (b4, e4, w4)] (by simp) (by simp [h1, h2, h3, h4])
 simpa using this
noncomputable def P (c : Config) (p : Nat) : Partition := za c.partitions p
noncomputable def Rg (c : Config) (p k : Nat) : Region := zh (P c p).regions k
noncomputable def zf3 (c : Config) (p q : Nat) : Bool := ((P c q).name.toList == (P c p).name.toList)
noncomputable def zcx (c : Config) (p : Nat) : Bool := !((List.range p).any (zf3 c p)) && zqc (P c p).name
theorem zqb {i n : Nat} (h : i <= n) : inS 0 (i : Int) n = true := inS_iff.2 ⟨by omega, by omega, by omega⟩
theorem zye {c : Config} {p q : Nat} (hq : q < p) (hp : p <= c.partitions.length) : za ((c.partitions.take p).drop 0) q = P c q := by
 simp [za, P, List.getD, List.getElem?_take, hq]
theorem zGq {c : Config} (hc : zbu c) {p : Nat} (hp : p < c.partitions.length) : zvA c p = some (zcx c p) := by
 have hlen := hc.parts
 unfold B47 at hlen
 have h := zaj (n := p) (f := fun i => zqo c p (.l0 (i : Int))) (q := zf3 c p) (r := some false) (e := some (zqc (P c p).name)) (fun i hi => by
  rw [zpe]
  simp only [zeD, zQ hi, cnT, zm hp, zm (show i < c.partitions.length by omega), zW, zi i (by omega), id]
  rfl) (by
  rw [zpe]
  obtain ⟨e1, e2⟩ := zw (zGh (P c p).name)
  have e2' : znb (P c p).name = true := e2
  have e1' : ztO (P c p).name = zqc (P c p).name := e1
  simp only [zeD, zR (Nat.le_refl _), cnF, zm hp, cnT, zW, id]
  show cond (znb (P c p).name) (some (ztO (P c p).name)) none = _
  rw [e1', e2']; rfl)
 refine h.trans ?_
 unfold zcx
 cases (List.range p).any (zf3 c p) <;> simp
theorem zGp {c : Config} (hc : zbu c) {p : Nat} (hp : p < c.partitions.length) : zq0 c p = some (zcx c p) := by
 have hlen := hc.parts
 unfold B47 at hlen
 have htl : ((c.partitions.take p).drop 0).length = p := by simp; omega
 have h := zaj (n := p) (f := fun i => zqr c p (.l0 (i : Int))) (q := zf3 c p) (r := some false) (e := some (zqc (P c p).name)) (fun i hi => by
  rw [zpk]
  simp only [zeJ, zW, htl, zQ hi, cnT, zm hp, zm hi, zi i (by omega), id, zye hi (Nat.le_of_lt hp)]
  rfl) (by
  rw [zpk]
  obtain ⟨e1, e2⟩ := zw (zGg (P c p).name)
  have e2' : zni (P c p).name = true := e2
  have e1' : ztQ (P c p).name = zqc (P c p).name := e1
  simp only [zeJ, zW, htl, zR (Nat.le_refl _), cnF, zm hp, cnT, id]
  show cond (zni (P c p).name) (some (ztQ (P c p).name)) none = _
  rw [e1', e2']; rfl)
 unfold zq0 zja
 rw [zqb (Nat.le_of_lt hp), cnT]
 refine h.trans ?_
 unfold zcx
 cases (List.range p).any (zf3 c p) <;> simp
noncomputable def zfU (a m b o : Int) : Bool := zmy a m b o
noncomputable def ze8 (c : Config) (g : Region) : Bool := (decide (0 <= g.page) && decide (g.page <= 255)) && (decide (1 <= g.pages) && decide (g.pages <= i64.wrap (256 - g.page))) && decide (0 <= g.frame) && decide (g.pages <= i64.wrap (c.frames - g.frame)) && (decide (1 <= g.rights) && decide (g.rights <= 7))
noncomputable def zoQ (c : Config) (p k i : Nat) : Bool := zfU (Rg c p k).page (Rg c p k).pages (Rg c p i).page (Rg c p i).pages
noncomputable def zcv (c : Config) (p k q i : Nat) : Bool := (decide (q < p) || decide (i < k)) && zfU (Rg c p k).frame (Rg c p k).pages (Rg c q i).frame (Rg c q i).pages
noncomputable def zat (c : Config) (p : Nat) : Nat := (P c p).regions.length
noncomputable def zf1 (c : Config) (p k : Nat) : Bool := ze8 c (Rg c p k) && !((List.range k).any (zoQ c p k)) && !((List.range (p + 1)).any fun q => (List.range (zat c q)).any (zcv c p k q))
theorem zGC (c : Config) (g : Region) : zo8 c g = ze8 c g := by
 refine (zw (r := ze8 c g) ?_).1
 unfold zjU zi7 ze8
 rw [zjr, zjr, zjr]
 cases decide (0 <= g.page) <;> cases decide (g.page <= 255) <;> cases decide (1 <= g.pages) <;> cases decide (g.pages <= i64.wrap (256 - g.page)) <;> cases decide (0 <= g.frame) <;> cases decide (g.pages <= i64.wrap (c.frames - g.frame)) <;> simp
theorem zCc {c : Config} (hc : zbu c) {p k : Nat} (hp : p < c.partitions.length) (hk : k < zat c p) : zyR (zqw c p k) (zf1 c p k) := by
 have hlen := hc.parts
 unfold B47 at hlen
 have hrl : ∀ q, q < c.partitions.length -> zat c q * 32 <= B47 := fun q hq => hc.regions q hq
 have hB : B47 = 140737488351232 := rfl
 have hk' : k < (za c.partitions p).regions.length := hk
 -- the frames of one partition
 have h8 : ∀ q, q <= p -> zbX c p k (.l8 (q : Int) 0) = cond ((List.range (zat c q)).any (zcv c p k q)) (some 411) (zbX c p k (.l4 ((q + 1 : Nat) : Int))) := fun q hq => by
  have hqc : q < c.partitions.length := by omega
  have hql := hrl q hqc
  by_cases hqp : q = p
  . subst hqp
    have h := zaj (n := k) (f := fun i => zbX c q k (.l8 (q : Int) (i : Int))) (q := fun i => zfU (Rg c q k).frame (Rg c q k).pages (Rg c q i).frame (Rg c q i).pages) (r := some 411) (e := zbX c q k (.l4 ((q + 1 : Nat) : Int))) (fun i hi => by
     rw [zb3]
     have hi' : i < (za c.partitions q).regions.length := by omega
     have e1 : decide ((i : Int) >= (k : Int)) = false := decide_eq_false (by omega)
     simp only [zbS, zW, zm hqc, cnT, zQ hi', zm hi', beq_self_eq_true, e1, cnF, zi i (by omega), id]
     rfl) (by
     rw [zb3]
     have e1 : decide ((k : Int) >= (k : Int)) = true := decide_eq_true (by omega)
     simp only [zbS, zW, zm hqc, cnT, zQ hk', beq_self_eq_true, e1, zi q (by omega), id])
    refine h.trans ?_
    congr 1
    rw [Bool.eq_iff_iff, any_t, any_t]
    constructor
    . rintro ⟨i, hi, hq⟩
      exact ⟨i, Nat.lt_trans hi hk, by simp only [zcv, Bool.and_eq_true, Bool.or_eq_true, decide_eq_true_eq]; exact ⟨.inr hi, hq⟩⟩
    . rintro ⟨i, hi, hq⟩
      simp only [zcv, Bool.and_eq_true, Bool.or_eq_true, decide_eq_true_eq] at hq
      exact ⟨i, by omega, hq.2⟩
  . have h := zaj (n := zat c q) (f := fun i => zbX c p k (.l8 (q : Int) (i : Int))) (q := zcv c p k q) (r := some 411) (e := zbX c p k (.l4 ((q + 1 : Nat) : Int))) (fun i hi => by
     rw [zb3]
     have hi' : i < (za c.partitions q).regions.length := hi
     have e1 : ((q : Int) == (p : Int)) = false := by simp; omega
     simp only [zbS, zW, zm hqc, cnT, zQ hi', zm hi', e1, cnF, zi i (by omega), id]
     unfold zcv
     rw [show decide (q < p) = true from decide_eq_true (by omega), Bool.true_or, Bool.true_and]
     rfl) (by
     rw [zb3]
     have hi' : decide ((zat c q : Int) < ((za c.partitions q).regions.length : Int)) = false := zR (Nat.le_refl _)
     simp only [zbS, zW, zm hqc, cnT, hi', cnF, zi q (by omega), id])
    exact h
 have h4 := zaj (n := p + 1) (f := fun q => zbX c p k (.l4 (q : Int))) (q := fun q => (List.range (zat c q)).any (zcv c p k q)) (r := some 411) (e := some 0) (fun q hq => by
  rw [zb3]
  have e1 : decide ((q : Int) <= (p : Int)) = true := decide_eq_true (by omega)
  simp only [zbS, e1, cnT, id]
  exact h8 q (by omega)) (by
  rw [zb3]
  have e1 : decide (((p + 1 : Nat) : Int) <= (p : Int)) = false := decide_eq_false (by omega)
  simp only [zbS, e1, cnF, id])
 have hkl := hrl p hp
 have h0 := zaj (n := k) (f := fun i => zbX c p k (.l0 (i : Int))) (q := zoQ c p k) (r := some 410) (e := zbX c p k (.l4 0)) (fun i hi => by
  rw [zb3]
  have hi' : i < (za c.partitions p).regions.length := by omega
  simp only [zbS, zW, zQ hi, zm hp, cnT, zm hi', zi i (by omega), id]
  rfl) (by
  rw [zb3]
  simp only [zbS, zR (Nat.le_refl _), cnF, id])
 unfold zqw ziI
 simp only [zW, zm hp, zm hk', cnT, id]
 show zyR (cond (!(zo8 c (Rg c p k))) (some 409) (zbX c p k (.l0 0))) _
 rw [zGC]
 unfold zf1
 cases ze8 c (Rg c p k) with
 | false => exact ⟨409, rfl, rfl⟩
 | true =>
  simp only [Bool.not_true, cnF, Bool.true_and]
  refine (show zyR _ _ from ?_)
  rw [show zbX c p k (.l0 0) = _ from h0, show zbX c p k (.l4 0) = _ from h4]
  cases (List.range k).any (zoQ c p k) with
  | true => exact ⟨410, rfl, rfl⟩
  | false =>
   simp only [cnF, Bool.not_false, Bool.true_and]
   cases (List.range (p + 1)).any fun q => (List.range (zat c q)).any (zcv c p k q) with
   | true => exact ⟨411, rfl, rfl⟩
   | false => exact ⟨0, rfl, rfl⟩
theorem zGj (n : Int) : decide (n < 0) = !(decide (0 <= n)) := by
 by_cases h : 0 <= n
 . rw [decide_eq_false (by omega), decide_eq_true h]; rfl
 . rw [decide_eq_true (by omega), decide_eq_false h]; rfl
theorem zu7 (a b : Int) : decide (a > b) = !(decide (a <= b)) := by
 by_cases h : a <= b
 . rw [decide_eq_false (by omega), decide_eq_true h]; rfl
 . rw [decide_eq_true (by omega), decide_eq_false h]; rfl
theorem zOu {c : Config} {p k i : Nat} (hi : i < k) : zh ((((P c p).regions).take k).drop 0) i = Rg c p i := by
 simp [zh, Rg, List.getD, List.getElem?_take, hi]
theorem zGB {c : Config} {p k : Nat} (hk : k <= zat c p) : ((((P c p).regions).take k).drop 0).length = k := by
 unfold zat at hk
 simp; omega
theorem zCb {c : Config} (hc : zbu c) {p k : Nat} (hp : p < c.partitions.length) (hk : k < zat c p) : AnsF (zq1 c p k) (zf1 c p k) := by
 have hlen := hc.parts
 unfold B47 at hlen
 have hrl : ∀ q, q < c.partitions.length -> zat c q * 32 <= B47 := fun q hq => hc.regions q hq
 have hB : B47 = 140737488351232 := rfl
 have hk' : k < (za c.partitions p).regions.length := hk
 have hw : i64.wrap ((p : Int) + 1) = ((p + 1 : Nat) : Int) := zi p (by omega)
 have hpl : ((c.partitions.take (p + 1)).drop 0).length = p + 1 := by simp; omega
 let e3 : AdmitFound := ⟨411, ⟨p, k⟩⟩
 have h8 : ∀ q, q <= p -> zcA c p k (.l8 (q : Int) (q : Int) (P c q).regions ((P c q).regions.length) 0) = cond ((List.range (zat c q)).any (zcv c p k q)) (some e3) (zcA c p k (.l4 ((q + 1 : Nat) : Int))) := fun q hq => by
  have hql := hrl q (by omega)
  exact zaj (n := zat c q) (f := fun i => zcA c p k (.l8 (q : Int) (q : Int) (P c q).regions ((P c q).regions.length) (i : Int))) (q := zcv c p k q) (r := some e3) (e := zcA c p k (.l4 ((q + 1 : Nat) : Int))) (fun i hi => by
   rw [zdf]
   have hi' : i < (P c q).regions.length := hi
   have e1 : decide ((q : Int) < (p : Int)) = decide (q < p) := by rw [Bool.eq_iff_iff, decide_eq_true_eq, decide_eq_true_eq]; omega
   have e2 : decide ((i : Int) < (k : Int)) = decide (i < k) := by rw [Bool.eq_iff_iff, decide_eq_true_eq, decide_eq_true_eq]; omega
   simp only [zcs, zW, cnT, zQ hi', zm hi', e1, e2, zi i (by omega), id]
   unfold zcv
   show cond (decide (q < p)) (cond (zfU (Rg c p k).frame (Rg c p k).pages (Rg c q i).frame (Rg c q i).pages) (some e3) _) (cond (decide (i < k)) (cond (zfU (Rg c p k).frame (Rg c p k).pages (Rg c q i).frame (Rg c q i).pages) (some e3) _) _) = _
   cases decide (q < p) <;> cases decide (i < k) <;> cases zfU (Rg c p k).frame (Rg c p k).pages (Rg c q i).frame (Rg c q i).pages <;> rfl) (by
   rw [zdf]
   have hi' : decide ((zat c q : Int) < ((P c q).regions.length : Int)) = false := zR (Nat.le_refl _)
   simp only [zcs, hi', cnF, zi q (by omega), id])
 have h4 := zaj (n := p + 1) (f := fun q => zcA c p k (.l4 (q : Int))) (q := fun q => (List.range (zat c q)).any (zcv c p k q)) (r := some e3) (e := some fine) (fun q hq => by
  rw [zdf]
  simp only [zcs, hw, zW, hpl, zQ hq, zm hq, cnT, zye hq (show p + 1 <= c.partitions.length by omega), id]
  exact h8 q (by omega)) (by
  rw [zdf]
  simp only [zcs, hw, zW, hpl, zR (Nat.le_refl _), cnF, id])
 have hkl := hrl p hp
 let e2 : AdmitFound := ⟨410, ⟨p, k⟩⟩
 have hrlen : (((za c.partitions p).regions.take k).drop 0).length = k := zGB (c := c) (p := p) (Nat.le_of_lt hk)
 have h0 := zaj (n := k) (f := fun i => zcA c p k (.l0 (i : Int))) (q := zoQ c p k) (r := some e2) (e := zcA c p k (.l4 0)) (fun i hi => by
  rw [zdf]
  have ha : zh (((za c.partitions p).regions.take k).drop 0) i = Rg c p i := zOu hi
  simp only [zcs, zW, hrlen, zQ hi, zm hi, cnT, ha, zi i (by omega), id]
  rfl) (by
  rw [zdf]
  simp only [zcs, zW, hrlen, zR (Nat.le_refl _), cnF, hw, zqb (show p + 1 <= c.partitions.length by omega), cnT, id])
 unfold zq1 zjb
 simp only [zW, zm hp, zm hk', cnT, zeZ, zGj, zu7, zqb (Nat.le_of_lt hk'), id]
 unfold zf1 ze8
 show AnsF (cond (!(decide (0 <= (Rg c p k).page) && decide ((Rg c p k).page <= 255))) _ (cond (!(decide (1 <= (Rg c p k).pages) && decide ((Rg c p k).pages <= i64.wrap (256 - (Rg c p k).page)))) _ (cond (!(decide (0 <= (Rg c p k).frame))) _ (cond (!(decide ((Rg c p k).pages <= i64.wrap (c.frames - (Rg c p k).frame)))) _ (cond (!(decide (1 <= (Rg c p k).rights) && decide ((Rg c p k).rights <= 7))) _ (zcA c p k (.l0 0))))))) _
 cases decide (0 <= (Rg c p k).page) && decide ((Rg c p k).page <= 255) with
 | false => exact .err' rfl (by decide)
 | true =>
 cases decide (1 <= (Rg c p k).pages) && decide ((Rg c p k).pages <= i64.wrap (256 - (Rg c p k).page)) with
 | false => exact .err' rfl (by decide)
 | true =>
 cases decide (0 <= (Rg c p k).frame) with
 | false => exact .err' rfl (by decide)
 | true =>
 cases decide ((Rg c p k).pages <= i64.wrap (c.frames - (Rg c p k).frame)) with
 | false => exact .err' rfl (by decide)
 | true =>
 cases decide (1 <= (Rg c p k).rights) && decide ((Rg c p k).rights <= 7) with
 | false => exact .err' rfl (by decide)
 | true =>
  simp only [Bool.not_true, cnF, Bool.true_and, Bool.and_true]
  rw [show zcA c p k (.l0 0) = _ from h0, show zcA c p k (.l4 0) = _ from h4]
  cases (List.range k).any (zoQ c p k) with
  | true => exact .err' rfl (by decide)
  | false =>
   simp only [cnF, Bool.not_false, Bool.true_and]
   cases (List.range (p + 1)).any fun q => (List.range (zat c q)).any (zcv c p k q) with
   | true => exact .err' rfl (by decide)
   | false => exact .fine rfl
noncomputable def zg5 (x : Partition) (i : Nat) : Bool := (decide ((zh x.regions i).page <= bop .quo .i64 x.entry 16) && decide (bop .quo .i64 x.entry 16 <= i64.wrap (i64.wrap ((zh x.regions i).page + (zh x.regions i).pages) - 1))) && !((bop .and .i64 (zh x.regions i).rights 4) == 0)
noncomputable def zeU (x : Partition) : Bool := (decide (0 <= x.entry) && decide (x.entry <= 4095)) && (List.range x.regions.length).any (zg5 x)
theorem zlg {R : Type} (a b : Bool) (x y : R) : cond a (cond b x y) y = cond (a && b) x y := by cases a <;> cases b <;> rfl
theorem zEV {x : Partition} (hx : x.regions.length * 32 <= B47) : zqx x = some (zeU x) := by
 unfold B47 at hx
 have h := zaj (n := x.regions.length) (f := fun i => zmH x (.l0 (i : Int))) (q := zg5 x) (r := some true) (e := some false) (fun i hi => by
  rw [zpf]
  simp only [zeE, zW, zQ hi, zm hi, cnT, zjr, zi i (by omega), id, zlg]
  rfl) (by
  rw [zpf]
  simp only [zeE, zR (Nat.le_refl _), cnF, id])
 unfold zqx ziJ zeU
 rw [zjr]
 cases decide (0 <= x.entry) && decide (x.entry <= 4095) with
 | false => rfl
 | true =>
  refine Eq.trans (show _ = zmH x (.l0 0) from rfl) (Eq.trans h ?_)
  cases (List.range x.regions.length).any (zg5 x) <;> rfl
theorem zOw {x : Partition} (hx : x.regions.length * 32 <= B47) : zvD x = some ((List.range x.regions.length).any (zg5 x)) := by
 unfold B47 at hx
 have h := zaj (n := x.regions.length) (f := fun i => zmL x (.l0 (i : Int))) (q := zg5 x) (r := some true) (e := some false) (fun i hi => by
  rw [zpl]
  simp only [zeK, zW, zQ hi, zm hi, cnT, zeZ, zi i (by omega), id, zlg]
  rfl) (by
  rw [zpl]
  simp only [zeK, zR (Nat.le_refl _), cnF, id])
 refine Eq.trans (show _ = zmL x (.l0 0) from rfl) (Eq.trans h ?_)
 cases (List.range x.regions.length).any (zg5 x) <;> rfl
noncomputable def zU (c : Config) (p : Nat) : Nat := (P c p).ports.length
noncomputable def Pt (c : Config) (p k : Nat) : Port := zaQ (P c p).ports k
noncomputable def zfm (c : Config) (p k : Nat) : Bool := !(decide (0 <= (Pt c p k).channel) && decide ((Pt c p k).channel <= i64.wrap ((c.channels.length : Int) - 1)))
noncomputable def zl7 (c : Config) (p : Nat) : Bool := zcx c p && (((decide (0 <= (P c p).action) && decide ((P c p).action <= 2)) && (decide (0 <= (P c p).restarts) && decide ((P c p).restarts <= 15))) && (((decide (0 <= (P c p).inputs) && decide ((P c p).inputs <= 16)) && (decide (0 <= (P c p).outputs) && decide ((P c p).outputs <= 16))) && (decide (1 <= zat c p) && decide (zat c p <= 8))))
noncomputable def zdx (c : Config) (p : Nat) : Bool := zl7 c p && !((List.range (zat c p)).any fun k => !(zf1 c p k)) && zeU (P c p) && decide (zU c p <= 8) && !((List.range (zU c p)).any (zfm c p))
theorem zp0 {o : Option Int} {b : Bool} (h : zyR o b) : o.isSome = true /\ (o.getD default == 0) = b := by
 obtain ⟨e, rfl, h⟩ := h
 exact ⟨rfl, h⟩
theorem zdM {o : Option AdmitFound} {b : Bool} (h : AnsF o b) : o.isSome = true /\ za1 (o.getD default) = b /\ (b = true -> o.getD default = fine) /\ (b = false -> (o.getD default).e ≠ 0) := by
 obtain ⟨r, rfl, h1, h2⟩ := h
 refine ⟨rfl, ?_, h1, h2⟩
 cases b with
 | true => rw [show (some r).getD default = r from rfl, h1 rfl]; exact zdr
 | false => exact zkT (h2 rfl)
def zb8 (o : Option (Int × Where)) (b : Bool) : Prop := ∃ r, o = some r /\ (r.1 == 0) = b
theorem ztI {c : Config} (hc : zbu c) {p : Nat} (hp : p < c.partitions.length) : zb8 (zxe c p) (zdx c p) := by
 have hrl : zat c p * 32 <= B47 := hc.regions p hp
 have hql : zU c p * 16 <= B47 := hc.ports p hp
 have hB : B47 = 140737488351232 := rfl
 obtain ⟨n1, n2⟩ := zw (zGq hc hp)
 have n1' : zwy c p = zcx c p := n1
 have n2' : zq7 c p = true := n2
 -- ports
 have l6 : ∀ m i, i + m = zU c p -> zb8 (zpr c p (.l6 (i : Int))) (!((List.range' i m).any (zfm c p))) := by
  intro m
  induction m with
  | zero =>
   intro i h
   rw [zio]
   have hi' : decide ((i : Int) < ((za c.partitions p).ports.length : Int)) = false := zR (by unfold zU P at h; omega)
   simp only [zfB, zW, hi', cnF, id]
   exact ⟨_, rfl, rfl⟩
  | succ m ih =>
   intro i h
   rw [zio]
   have hi : i < (za c.partitions p).ports.length := by unfold zU P at h; omega
   simp only [zfB, zW, zQ hi, zm hi, cnT, zjr, zi i (by omega), id]
   rw [List.range'_succ, List.any_cons]
   show zb8 (cond (zfm c p i) _ _) _
   cases zfm c p i with
   | true => exact ⟨_, rfl, rfl⟩
   | false => simpa using ih (i + 1) (by omega)
 have l6' := l6 (zU c p) 0 (by omega)
 rw [← List.range_eq_range'] at l6'
 obtain ⟨x1, x2⟩ := zw (zEV (x := P c p) hrl)
 have x1' : zwz (za c.partitions p) = zeU (P c p) := x1
 have x2' : zq9 (za c.partitions p) = true := x2
 have l2 : ∀ m i, i + m = zat c p -> zb8 (zpr c p (.l2 (i : Int))) (!((List.range' i m).any fun k => !(zf1 c p k)) && zeU (P c p) && decide (zU c p <= 8) && !((List.range (zU c p)).any (zfm c p))) := by
  intro m
  induction m with
  | zero =>
   intro i h
   rw [zio]
   have hi' : decide ((i : Int) < ((za c.partitions p).regions.length : Int)) = false := zR (by unfold zat P at h; omega)
   simp only [zfB, zW, hi', cnF, x1', x2', cnT, zu7, id]
   cases zeU (P c p) with
   | false => exact ⟨_, rfl, by simp⟩
   | true =>
    have e1 : decide (((za c.partitions p).ports.length : Int) <= 8) = decide (zU c p <= 8) := by rw [Bool.eq_iff_iff, decide_eq_true_eq, decide_eq_true_eq]; unfold zU P; omega
    rw [e1]
    cases decide (zU c p <= 8) with
    | false => exact ⟨_, rfl, by simp⟩
    | true => simpa using l6'
  | succ m ih =>
   intro i h
   have hi : i < zat c p := by omega
   rw [zio]
   have hi' : i < (za c.partitions p).regions.length := hi
   obtain ⟨r1, r2⟩ := zp0 (zCc hc hp hi)
   have r1' : zq8 c p i = true := r1
   have r2' : ((zoY c p i : Int) == 0) = zf1 c p i := r2
   simp only [zfB, zW, zQ hi', cnT, r1', r2', zi i (by omega), id]
   rw [List.range'_succ, List.any_cons]
   cases hq : zf1 c p i with
   | false =>
    refine ⟨_, rfl, ?_⟩
    show ((zoY c p i : Int) == 0) = _
    rw [r2', hq]; simp
   | true => simpa using ih (i + 1) (by omega)
 have l2' := l2 (zat c p) 0 (by omega)
 rw [← List.range_eq_range'] at l2'
 unfold zxe zos
 simp only [zW, zm hp, cnT, n1', n2', zjr, id]
 have e8 : (decide ((1 : Int) <= ((za c.partitions p).regions.length : Int)) && decide (((za c.partitions p).regions.length : Int) <= 8)) = (decide (1 <= zat c p) && decide (zat c p <= 8)) := by
  rw [Bool.eq_iff_iff]; simp only [Bool.and_eq_true, decide_eq_true_eq]; unfold zat P; omega
 rw [e8]
 unfold zdx zl7
 show zb8 (cond (!(zcx c p)) _ (cond (!(decide (0 <= (P c p).action) && decide ((P c p).action <= 2))) _ (cond (!(decide (0 <= (P c p).restarts) && decide ((P c p).restarts <= 15))) _ (cond (!(decide (0 <= (P c p).inputs) && decide ((P c p).inputs <= 16))) _ (cond (!(decide (0 <= (P c p).outputs) && decide ((P c p).outputs <= 16))) _ (cond (!(decide (1 <= zat c p) && decide (zat c p <= 8))) _ (zpr c p (.l2 0)))))))) _
 cases zcx c p with
 | false => exact ⟨_, rfl, rfl⟩
 | true =>
 cases decide (0 <= (P c p).action) && decide ((P c p).action <= 2) with
 | false => exact ⟨_, rfl, rfl⟩
 | true =>
 cases decide (0 <= (P c p).restarts) && decide ((P c p).restarts <= 15) with
 | false => exact ⟨_, rfl, rfl⟩
 | true =>
 cases decide (0 <= (P c p).inputs) && decide ((P c p).inputs <= 16) with
 | false => exact ⟨_, rfl, rfl⟩
 | true =>
 cases decide (0 <= (P c p).outputs) && decide ((P c p).outputs <= 16) with
 | false => exact ⟨_, rfl, rfl⟩
 | true =>
 cases decide (1 <= zat c p) && decide (zat c p <= 8) with
 | false => exact ⟨_, rfl, rfl⟩
 | true => simpa using l2'
theorem zn7 {α : Type} (b : Bool) (x : α) : cond b x x = x := by cases b <;> rfl
theorem zcu (x : AdmitFound) : (((x.e : Int) == fine.e) && ((((x.where_.first : Int) == fine.where_.first) && (((x.where_.second : Int) == fine.where_.second) && true)) && true)) = za1 x := rfl
theorem zji (x : AdmitFound) : (⟨x.e, ⟨x.where_.first, x.where_.second⟩⟩ : AdmitFound) = x := rfl
noncomputable def X0 (c : Config) (p : Nat) (x : AdmitFound) (i : Nat) : Option AdmitFound := zmJ c p (.l0 (i : Int) x.e x.where_.first x.where_.second)
noncomputable def X4 (c : Config) (p : Nat) (x : AdmitFound) (i : Nat) : Option AdmitFound := zmJ c p (.l4 (i : Int) x.e x.where_.first x.where_.second)
theorem zAA {c : Config} {p i : Nat} {x : AdmitFound} (hx : x.e ≠ 0) : X4 c p x i = some x := by
 unfold X4
 rw [zde]
 simp only [zcr, zW, zcu, zkT hx, cnF, zn7, id, zji]
theorem zAz {c : Config} {p i : Nat} {x : AdmitFound} (hx : x.e ≠ 0) : X0 c p x i = some x := by
 unfold X0
 rw [zde]
 simp only [zcr, zW, zcu, zkT hx, cnF, Bool.not_false, cnT, zn7, id, zji]
theorem zEE {c : Config} (hc : zbu c) {p : Nat} (hp : p < c.partitions.length) : ∀ m i, i + m = zU c p -> AnsF (X4 c p fine i) (!((List.range' i m).any (zfm c p))) := by
 have hql : zU c p * 16 <= B47 := hc.ports p hp
 have hB : B47 = 140737488351232 := rfl
 intro m
 induction m with
 | zero =>
  intro i h
  unfold X4
  rw [zde]
  have hi' : decide ((i : Int) < ((za c.partitions p).ports.length : Int)) = false := zR (by unfold zU P at h; omega)
  simp only [zcr, zW, hi', cnF, id, zji]
  exact .fine rfl
 | succ m ih =>
  intro i h
  have hi : i < (za c.partitions p).ports.length := by unfold zU P at h; omega
  have key : X4 c p fine i = X4 c p (zr (!(zfm c p i)) 414 (zam p i)) (i + 1) := by
   unfold X4
   rw [zde]
   simp only [zcr, zW, zQ hi, zcu, zdr, cnT, zm hi, zeZ, zi i (by omega), id]
   unfold zfm
   rw [Bool.not_not]
   rfl
  rw [key, List.range'_succ, List.any_cons]
  cases zfm c p i with
  | true =>
   rw [Bool.not_true, ziu, zAA (show (414 : Int) ≠ 0 by decide)]
   exact .err' rfl (by decide)
  | false => simpa [znz] using ih (i + 1) (by omega)
noncomputable def zpR (c : Config) (p : Nat) : Bool := zeU (P c p) && decide (zU c p <= 8) && !((List.range (zU c p)).any (zfm c p))
theorem zKH {c : Config} (hc : zbu c) {p : Nat} (hp : p < c.partitions.length) : AnsF (X0 c p fine (zat c p)) (zpR c p) := by
 have hrl : zat c p * 32 <= B47 := hc.regions p hp
 have h4 := zEE hc hp (zU c p) 0 (by omega)
 rw [← List.range_eq_range'] at h4
 obtain ⟨x1, x2⟩ := zw (zOw (x := P c p) hrl)
 have x1' : zwH (za c.partitions p) = (List.range (P c p).regions.length).any (zg5 (P c p)) := x1
 have x2' : znf (za c.partitions p) = true := x2
 have e1 : decide (((za c.partitions p).ports.length : Int) <= 8) = decide (zU c p <= 8) := by rw [Bool.eq_iff_iff, decide_eq_true_eq, decide_eq_true_eq]; unfold zU P; omega
 unfold X0
 rw [zde]
 have hi' : decide ((zat c p : Int) < ((za c.partitions p).regions.length : Int)) = false := zR (Nat.le_refl _)
 simp only [zcr, zW, hi', cnF, zcu, zdr, Bool.not_true, x1', x2', cnT, zeZ, e1, id]
 have go : ∀ b : Bool, AnsF (cond (zaU [zr b 412 (zE p), zr (decide (zU c p <= 8)) 413 (zE p)]) (X4 c p (zaK [zr b 412 (zE p), zr (decide (zU c p <= 8)) 413 (zE p)]) 0) none) (b && decide (zU c p <= 8) && !((List.range (zU c p)).any (zfm c p))) := fun b => by
  obtain ⟨k1, k2, k3, k4⟩ := zdM (zKX b (decide (zU c p <= 8)) 412 413 (zE p) (zE p) (by decide) (by decide))
  have k1' : zaU [zr b 412 (zE p), zr (decide (zU c p <= 8)) 413 (zE p)] = true := k1
  rw [k1', cnT]
  cases hb : b && decide (zU c p <= 8) with
  | false =>
   have := k4 hb
   exact Eq.mpr (congrArg (fun o => AnsF o _) (zAA this)) (.err rfl this)
  | true =>
   have : zaK [zr b 412 (zE p), zr (decide (zU c p <= 8)) 413 (zE p)] = fine := k3 hb
   rw [this]
   simpa using h4
 unfold zpR zeU
 show AnsF (cond (decide (0 <= (P c p).entry) && decide ((P c p).entry <= 4095)) _ _) _
 cases decide (0 <= (P c p).entry) && decide ((P c p).entry <= 4095) with
 | true => exact go _
 | false => exact go false
theorem zED {c : Config} (hc : zbu c) {p : Nat} (hp : p < c.partitions.length) : ∀ m i, i + m = zat c p -> AnsF (X0 c p fine i) (!((List.range' i m).any fun k => !(zf1 c p k)) && zpR c p) := by
 have hrl : zat c p * 32 <= B47 := hc.regions p hp
 have hB : B47 = 140737488351232 := rfl
 intro m
 induction m with
 | zero =>
  intro i h
  obtain rfl : i = zat c p := by omega
  simpa using zKH hc hp
 | succ m ih =>
  intro i h
  have hi0 : i < zat c p := by omega
  have hi : i < (za c.partitions p).regions.length := hi0
  obtain ⟨k1, k2, k3, k4⟩ := zdM (zCb hc hp hi0)
  have k1' : zrs c p i = true := k1
  have key : X0 c p fine i = X0 c p (zmB c p i) (i + 1) := by
   unfold X0
   rw [zde]
   simp only [zcr, zW, zQ hi, zcu, zdr, cnT, k1', zi i (by omega), id]
  rw [key, List.range'_succ, List.any_cons]
  cases hq : zf1 c p i with
  | false =>
   have := k4 hq
   exact Eq.mpr (congrArg (fun o => AnsF o _) (zAz this)) (.err (by simp) this)
  | true =>
   have : zmB c p i = fine := k3 hq
   rw [this]
   simpa using ih (i + 1) (by omega)
theorem ztH {c : Config} (hc : zbu c) {p : Nat} (hp : p < c.partitions.length) : AnsF (zqL c p) (zdx c p) := by
 have h0 := zED hc hp (zat c p) 0 (by omega)
 rw [← List.range_eq_range'] at h0
 obtain ⟨n1, n2⟩ := zw (zGp hc hp)
 have n1' : zcj c p = zcx c p := n1
 have n2' : zrr c p = true := n2
 have e8 : (decide ((1 : Int) <= ((za c.partitions p).regions.length : Int)) && decide (((za c.partitions p).regions.length : Int) <= 8)) = (decide (1 <= zat c p) && decide (zat c p <= 8)) := by
  rw [Bool.eq_iff_iff]; simp only [Bool.and_eq_true, decide_eq_true_eq]; unfold zat P; omega
 have go : ∀ b1 b2 b3 b4 : Bool, AnsF (cond (zaU [zr b1 405 (zE p), zr b2 406 (zE p), zr b3 407 (zE p), zr b4 408 (zE p)]) (X0 c p (zaK [zr b1 405 (zE p), zr b2 406 (zE p), zr b3 407 (zE p), zr b4 408 (zE p)]) 0) none) ((b1 && (b2 && (b3 && b4))) && (!((List.range (zat c p)).any fun k => !(zf1 c p k)) && zpR c p)) := fun b1 b2 b3 b4 => by
  obtain ⟨k1, k2, k3, k4⟩ := zdM (zKY b1 b2 b3 b4 405 406 407 408 (zE p) (zE p) (zE p) (zE p) (by decide) (by decide) (by decide) (by decide))
  generalize hL : [zr b1 405 (zE p), zr b2 406 (zE p), zr b3 407 (zE p), zr b4 408 (zE p)] = L at k1 k2 k3 k4 ⊢
  have k1' : zaU L = true := k1
  rw [k1', cnT]
  cases hb : b1 && (b2 && (b3 && b4)) with
  | false =>
   have := k4 hb
   rw [show X0 c p (zaK L) 0 = some (zaK L) from zAz this]
   exact .err rfl this
  | true =>
   have : zaK L = fine := k3 hb
   rw [this]
   simpa using h0
 unfold zqL zi2
 simp only [zW, zm hp, cnT, n1', n2', zeZ, e8, id]
 have hfin : zdx c p = (zl7 c p && (!((List.range (zat c p)).any fun k => !(zf1 c p k)) && zpR c p)) := by
  unfold zdx zpR
  cases zl7 c p <;> cases (List.range (zat c p)).any (fun k => !(zf1 c p k)) <;> cases zeU (P c p) <;> cases decide (zU c p <= 8) <;> rfl
 rw [hfin]
 unfold zl7
 show AnsF (cond (decide (0 <= (P c p).action) && decide ((P c p).action <= 2)) (cond (decide (0 <= (P c p).inputs) && decide ((P c p).inputs <= 16)) _ _) (cond (decide (0 <= (P c p).inputs) && decide ((P c p).inputs <= 16)) _ _)) _
 cases decide (0 <= (P c p).action) && decide ((P c p).action <= 2) <;> cases decide (0 <= (P c p).inputs) && decide ((P c p).inputs <= 16)
 . exact go (zcx c p) false false _
 . exact go (zcx c p) false _ _
 . exact go (zcx c p) _ false _
 . exact go (zcx c p) _ _ _
theorem zcJ {R : Type} (A : Option R -> Bool -> Prop) {n : Nat} {f : Nat -> Option R} {q : Nat -> Bool} {e : Bool} (hs : ∀ i, i < n -> (q i = true -> A (f i) false) /\ (q i = false -> f i = f (i + 1))) (he : (∀ i, i < n -> q i = false) -> A (f n) e) : A (f 0) (!((List.range n).any q) && e) := by
 have : ∀ k i, i + k = n -> (∀ j, j < i -> q j = false) -> A (f i) (!((List.range' i k).any q) && e) := by
  intro k
  induction k with
  | zero => intro i h hq; simp at h; subst h; simpa using he hq
  | succ k ih =>
   intro i h hq
   obtain ⟨h1, h2⟩ := hs i (by omega)
   rw [List.range'_succ, List.any_cons]
   cases hqi : q i with
   | true => simpa using h1 hqi
   | false =>
    rw [h2 hqi]
    simpa using ih (i + 1) (by omega) fun j hj => by
     by_cases hji : j = i
     . subst hji; exact hqi
     . exact hq j (by omega)
 have h := this n 0 (by omega) (fun j hj => by omega)
 rwa [← List.range_eq_range'] at h
def tot (g : Nat -> Nat) : Nat -> Nat
 | 0 => 0
 | n + 1 => tot g n + g n
def cnt (q : Nat -> Bool) : Nat -> Nat := tot fun k => cond (q k) 1 0
theorem zny {g : Nat -> Nat} {b : Nat} : ∀ {n : Nat}, (∀ i, i < n -> g i <= b) -> tot g n <= n * b
 | 0, _ => by simp [tot]
 | n + 1, h => by
  have := zny (n := n) fun i hi => h i (by omega)
  have := h n (by omega)
  simp only [tot, Nat.add_mul, Nat.one_mul]; omega
theorem zaF (q : Nat -> Bool) (n : Nat) : cnt q n <= n := by
 have := zny (g := fun k => cond (q k) 1 0) (b := 1) (n := n) fun i _ => by cases q i <;> simp
 unfold cnt; simpa using this
theorem zbc (q : Nat -> Bool) (n : Nat) : cnt q (n + 1) = cnt q n + cond (q n) 1 0 := rfl
noncomputable def zbl (c : Config) (h : Int) (q k : Nat) : Bool := ((Pt c q k).channel == h) && (Pt c q k).source
noncomputable def zau (c : Config) (h : Int) (q k : Nat) : Bool := ((Pt c q k).channel == h) && !(Pt c q k).source
noncomputable def zgi (c : Config) (h : Int) (n : Nat) : Nat := tot (fun q => cnt (zbl c h q) (zU c q)) n
noncomputable def zej (c : Config) (h : Int) (n : Nat) : Nat := tot (fun q => cnt (zau c h q) (zU c q)) n
structure Few (c : Config) : Prop where
 parts : c.partitions.length <= 8
 ports : ∀ q, q < c.partitions.length -> zU c q <= 8
theorem zk2 {c : Config} (hw : Few c) (h : Int) {n : Nat} (hn : n <= c.partitions.length) : zgi c h n <= 64 := by
 have := zny (g := fun q => cnt (zbl c h q) (zU c q)) (b := 8) (n := n) fun i hi => Nat.le_trans (zaF _ _) (hw.ports i (by omega))
 have := hw.parts
 unfold zgi; omega
theorem zkS {c : Config} (hw : Few c) (h : Int) {n : Nat} (hn : n <= c.partitions.length) : zej c h n <= 64 := by
 have := zny (g := fun q => cnt (zau c h q) (zU c q)) (b := 8) (n := n) fun i hi => Nat.le_trans (zaF _ _) (hw.ports i (by omega))
 have := hw.parts
 unfold zej; omega
theorem zKW {c : Config} (hw : Few c) (h : Int) : zvB c h = some ((zgi c h c.partitions.length : Int), (zej c h c.partitions.length : Int)) := by
 have h8 := hw.parts
 have inner : ∀ q, q < c.partitions.length -> ∀ s d : Nat, s <= 64 -> d <= 64 -> zbY c h (.l4 (s : Int) (d : Int) (q : Int) 0) = zbY c h (.l0 ((s + cnt (zbl c h q) (zU c q) : Nat) : Int) ((d + cnt (zau c h q) (zU c q) : Nat) : Int) ((q + 1 : Nat) : Int)) := fun q hq s d hs hd => by
  have hp8 := hw.ports q hq
  have := zz (n := zU c q) (f := fun k (x : Nat × Nat) => zbY c h (.l4 (x.1 : Int) (x.2 : Int) (q : Int) (k : Int))) (S := fun k => (s + cnt (zbl c h q) k, d + cnt (zau c h q) k)) (fun k hk => by
   have hk' : k < (za c.partitions q).ports.length := hk
   have l1 := zaF (zbl c h q) k
   have l2 := zaF (zau c h q) k
   dsimp only
   rw [zdd]
   simp only [zcq, zW, zm hq, cnT, zQ hk', zm hk', zi (s + cnt (zbl c h q) k) (by omega), id]
   have e17 : ∀ a b : Int, zbY c h (.l17 a b (q : Int) (k : Int)) = zbY c h (.l4 a b (q : Int) ((k + 1 : Nat) : Int)) := fun a b => by
    rw [zdd]
    simp only [zcq, zi k (by omega), id]
   have e25 : ∀ a : Int, zbY c h (.l25 a ((d + cnt (zau c h q) k : Nat) : Int) (q : Int) (k : Int) (Pt c q k).channel (Pt c q k).source) = zbY c h (.l4 a ((d + cnt (zau c h q) (k + 1) : Nat) : Int) (q : Int) ((k + 1 : Nat) : Int)) := fun a => by
    rw [zdd]
    simp only [zcq, zi (d + cnt (zau c h q) k) (by omega), e17, id]
    rw [zbc]
    unfold zau
    cases (Pt c q k).channel == h <;> cases (Pt c q k).source <;> rfl
   show cond ((Pt c q k).channel == h) (cond (Pt c q k).source (zbY c h (.l25 _ _ _ _ (Pt c q k).channel (Pt c q k).source)) (zbY c h (.l25 _ _ _ _ (Pt c q k).channel (Pt c q k).source))) (zbY c h (.l25 _ _ _ _ (Pt c q k).channel (Pt c q k).source)) = _
   rw [e25, e25]
   rw [zbc (zbl c h q)]
   unfold zbl
   cases (Pt c q k).channel == h <;> cases (Pt c q k).source <;> rfl)
  refine Eq.trans this ?_
  dsimp only
  rw [zdd]
  have hi' : decide ((zU c q : Int) < ((za c.partitions q).ports.length : Int)) = false := zR (Nat.le_refl _)
  simp only [zcq, zW, zm hq, cnT, hi', cnF, zi q (by omega), id]
 have outer := zz (n := c.partitions.length) (f := fun q (x : Nat × Nat) => zbY c h (.l0 (x.1 : Int) (x.2 : Int) (q : Int))) (S := fun q => (zgi c h q, zej c h q)) (fun q hq => by
  dsimp only
  rw [zdd]
  simp only [zcq, zQ hq, cnT, id]
  exact inner q hq _ _ (zk2 hw h (by omega)) (zkS hw h (by omega)))
 refine Eq.trans (show _ = zbY c h (.l0 0 0 0) from rfl) (Eq.trans outer ?_)
 dsimp only
 rw [zdd]
 simp only [zcq, zR (Nat.le_refl _), cnF, id]
theorem zKV {c : Config} (hw : Few c) (h : Int) : zvE c h = some ((zgi c h c.partitions.length : Int), (zej c h c.partitions.length : Int)) := by
 have h8 := hw.parts
 have inner : ∀ q, q < c.partitions.length -> ∀ s d : Nat, s <= 64 -> d <= 64 -> zd7 c h (.l4 (s : Int) (d : Int) (q : Int) (P c q).ports ((P c q).ports.length) 0) = zd7 c h (.l0 ((s + cnt (zbl c h q) (zU c q) : Nat) : Int) ((d + cnt (zau c h q) (zU c q) : Nat) : Int) ((q + 1 : Nat) : Int)) := fun q hq s d hs hd => by
  have hp8 := hw.ports q hq
  have := zz (n := zU c q) (f := fun k (x : Nat × Nat) => zd7 c h (.l4 (x.1 : Int) (x.2 : Int) (q : Int) (P c q).ports ((P c q).ports.length) (k : Int))) (S := fun k => (s + cnt (zbl c h q) k, d + cnt (zau c h q) k)) (fun k hk => by
   have hk' : k < (P c q).ports.length := hk
   have l1 := zaF (zbl c h q) k
   have l2 := zaF (zau c h q) k
   dsimp only
   rw [zet]
   simp only [zcV, zW, cnT, zQ hk', zm hk', zi (s + cnt (zbl c h q) k) (by omega), zi (d + cnt (zau c h q) k) (by omega), id]
   have e23 : ∀ a b : Int, zd7 c h (.l23 a b (q : Int) (P c q).ports ((P c q).ports.length) (k : Int)) = zd7 c h (.l4 a b (q : Int) (P c q).ports ((P c q).ports.length) ((k + 1 : Nat) : Int)) := fun a b => by
    rw [zet]
    simp only [zcV, zi k (by omega), id]
   rw [e23, e23, e23, zbc, zbc]
   unfold zbl zau
   show cond (!((Pt c q k).channel == h)) _ (cond (Pt c q k).source _ _) = _
   cases (Pt c q k).channel == h <;> cases (Pt c q k).source <;> rfl)
  refine Eq.trans this ?_
  dsimp only
  rw [zet]
  have hi' : decide ((zU c q : Int) < ((P c q).ports.length : Int)) = false := zR (Nat.le_refl _)
  simp only [zcV, hi', cnF, zi q (by omega), id]
 have outer := zz (n := c.partitions.length) (f := fun q (x : Nat × Nat) => zd7 c h (.l0 (x.1 : Int) (x.2 : Int) (q : Int))) (S := fun q => (zgi c h q, zej c h q)) (fun q hq => by
  dsimp only
  rw [zet]
  simp only [zcV, zQ hq, zm hq, cnT, zW, id]
  exact inner q hq _ _ (zk2 hw h (by omega)) (zkS hw h (by omega)))
 refine Eq.trans (show _ = zd7 c h (.l0 0 0 0) from rfl) (Eq.trans outer ?_)
 dsimp only
 rw [zet]
 simp only [zcV, zR (Nat.le_refl _), cnF, id]
noncomputable def Ch (c : Config) (h : Nat) : Channel := zn c.channels h
noncomputable def zfk (c : Config) (h : Nat) : Bool :=
 (((decide (1 <= (Ch c h).kind) && decide ((Ch c h).kind <= 2)) && (decide (1 <= (Ch c h).words) && decide ((Ch c h).words <= 16))) && cond ((Ch c h).kind == 2) (decide (1 <= (Ch c h).depth) && decide ((Ch c h).depth <= 8)) ((Ch c h).depth == 0)) &&
   (((zgi c h c.partitions.length : Int) == 1) && (decide ((1 : Int) <= (zej c h c.partitions.length : Int)) && decide ((zej c h c.partitions.length : Int) <= cond ((Ch c h).kind == 2) 1 4)))
theorem zzA {c : Config} (hw : Few c) {h : Nat} (hh : h < c.channels.length) : zyR (zxf c h) (zfk c h) := by
 obtain ⟨e1, e2⟩ := zw (zKW hw (h : Int))
 have e1' : zaD c (h : Int) = _ := e1
 have e2' : zdH c (h : Int) = true := e2
 unfold zxf zsJ
 have hch : zn c.channels h = Ch c h := rfl
 simp only [zm hh, cnT, e1', e2', zjr, id, zW, hch]
 unfold zfk
 generalize (Ch c h).kind = kd
 generalize (Ch c h).depth = dp
 generalize hs : (zgi c h c.partitions.length : Int) = s
 generalize hd : (zej c h c.partitions.length : Int) = d
 generalize (decide (1 <= (Ch c h).words) && decide ((Ch c h).words <= 16)) = wd
 by_cases k2 : kd = 2
 . subst k2
   have d1 : (decide (1 <= d) && decide (d <= 1)) = (d == 1) := by rw [Bool.eq_iff_iff]; simp; omega
   simp only [beq_self_eq_true, cnT, cnF, Bool.not_true, d1]
   cases wd <;> cases decide (1 <= dp) && decide (dp <= 8) <;> cases s == 1 <;> cases d == 1 <;> exact ⟨_, rfl, rfl⟩
 . have k2' : (kd == 2) = false := by simpa using k2
   by_cases k1 : kd = 1
   . subst k1
     simp only [k2', cnT, cnF, Bool.not_false, beq_self_eq_true, Bool.not_true]
     cases wd <;> cases dp == 0 <;> cases s == 1 <;> cases decide (1 <= d) && decide (d <= 4) <;> exact ⟨_, rfl, rfl⟩
   . have k1' : (kd == 1) = false := by simpa using k1
     have k12 : (decide (1 <= kd) && decide (kd <= 2)) = false := by
      rw [Bool.and_eq_false_iff, decide_eq_false_iff_not, decide_eq_false_iff_not]; omega
     simp only [k2', k1', k12, cnT, Bool.not_false, Bool.false_and]
     exact ⟨_, rfl, rfl⟩
theorem zzy {c : Config} (hw : Few c) {h : Nat} (hh : h < c.channels.length) : AnsF (zqN c h) (zfk c h) := by
 obtain ⟨e1, e2⟩ := zw (zKV hw (h : Int))
 have e1' : zpb c (h : Int) = _ := e1
 have e2' : zrt c (h : Int) = true := e2
 have hf : ∀ b1 b2 b3 : Bool, AnsF (cond (zaU [zr b1 415 (zE h), zr b2 416 (zE h), zr b3 417 (zE h)]) (some (zaK [zr b1 415 (zE h), zr b2 416 (zE h), zr b3 417 (zE h)])) none) (b1 && (b2 && b3)) := fun b1 b2 b3 => by
  have hf := zBg b1 b2 b3 415 416 417 (zE h) (zE h) (zE h) (by decide) (by decide) (by decide)
  obtain ⟨k1, k2, k3, k4⟩ := zdM hf
  have k1' : zaU [zr b1 415 (zE h), zr b2 416 (zE h), zr b3 417 (zE h)] = true := k1
  rw [k1', cnT]
  exact ⟨_, rfl, k3, k4⟩
 have l11 : ∀ (b : Bool) (m : Int), AnsF (zjG c h (.l11 b m)) (((decide (1 <= (Ch c h).kind) && decide ((Ch c h).kind <= 2)) && (decide (1 <= (Ch c h).words) && decide ((Ch c h).words <= 16)) && b) && (((zgi c h c.partitions.length : Int) == 1) && (decide ((1 : Int) <= (zej c h c.partitions.length : Int)) && decide ((zej c h c.partitions.length : Int) <= m)))) := fun b m => by
  rw [zAc]
  simp only [zfx, e1', e2', cnT, zeZ, id, zW]
  show AnsF (cond (decide (1 <= (Ch c h).kind) && decide ((Ch c h).kind <= 2)) (cond (decide (1 <= (Ch c h).words) && decide ((Ch c h).words <= 16)) _ _) _) _
  cases decide (1 <= (Ch c h).kind) && decide ((Ch c h).kind <= 2) <;> cases decide (1 <= (Ch c h).words) && decide ((Ch c h).words <= 16)
  . exact hf false _ _
  . exact hf false _ _
  . exact hf false _ _
  . exact hf b _ _
 unfold zqN zi3
 simp only [zm hh, cnT, zeZ, id, zW]
 unfold zfk
 show AnsF (cond ((Ch c h).kind == 2) (zjG c h (.l11 (decide (1 <= (Ch c h).depth) && decide ((Ch c h).depth <= 8)) 1)) (zjG c h (.l11 ((Ch c h).depth == 0) 4))) _
 cases (Ch c h).kind == 2 with
 | true => exact l11 _ _
 | false => exact l11 _ _
noncomputable def zbA (c : Config) (i : Nat) : Nat := (zK c.cores i).length
noncomputable def Win (c : Config) (i n : Nat) : Window := zcc (zK c.cores i) n
noncomputable def znp (c : Config) (p : Int) (i n : Nat) : Bool := !(p == (-1)) && ((Win c i n).partition == p)
noncomputable def zhu (c : Config) (k : Nat) (p : Int) : Bool := (List.range k).any fun i => (List.range (zbA c i)).any (znp c p i)
theorem zmw (b : Bool) : cond b (some true) (some false) = some b := by cases b <;> rfl
theorem zHs {c : Config} (hc : zbu c) {k : Nat} (hk : k <= c.cores.length) (p : Int) : zvC c k p = some (zhu c k p) := by
 have hB : B47 = 140737488351232 := rfl
 have hcl := hc.cores
 have inner : ∀ i, i < k -> zfb c k p (.l4 (i : Int) 0) = cond ((List.range (zbA c i)).any (znp c p i)) (some true) (zfb c k p (.l0 ((i + 1 : Nat) : Int))) := fun i hi => by
  have hic : i < c.cores.length := by omega
  have hwl : zbA c i * 24 <= B47 := hc.core i hic
  exact zaj (n := zbA c i) (f := fun n => zfb c k p (.l4 (i : Int) (n : Int))) (q := znp c p i) (r := some true) (e := zfb c k p (.l0 ((i + 1 : Nat) : Int))) (fun n hn => by
   have hn' : n < (zK c.cores i).length := hn
   rw [zgy]
   simp only [zdj, zW, zm hic, cnT, zQ hn', zm hn', zi n (by omega), id, zlg]
   rfl) (by
   rw [zgy]
   have hn' : decide ((zbA c i : Int) < ((zK c.cores i).length : Int)) = false := zR (Nat.le_refl _)
   simp only [zdj, zW, zm hic, cnT, hn', cnF, zi i (by omega), id])
 have outer := zaj (n := k) (f := fun i => zfb c k p (.l0 (i : Int))) (q := fun i => (List.range (zbA c i)).any (znp c p i)) (r := some true) (e := some false) (fun i hi => by
  rw [zgy]
  simp only [zdj, zQ hi, cnT, id]
  exact inner i hi) (by
  rw [zgy]
  simp only [zdj, zR (Nat.le_refl _), cnF, id])
 exact Eq.trans (show _ = zfb c k p (.l0 0) from rfl) (Eq.trans outer (zmw _))
noncomputable def zgE (c : Config) (p : Int) (i n : Nat) : Bool := decide (p >= 0) && ((Win c i n).partition == p)
theorem zOR {c : Config} {k i : Nat} (hi : i < k) : zK ((c.cores.take k).drop 0) i = zK c.cores i := by
 simp [zK, List.getD, List.getElem?_take, hi]
theorem zHr {c : Config} (hc : zbu c) {k : Nat} (hk : k <= c.cores.length) (p : Int) : zq2 c k p = some ((List.range k).any fun i => (List.range (zbA c i)).any (zgE c p i)) := by
 have hB : B47 = 140737488351232 := rfl
 have hcl := hc.cores
 have htl : ((c.cores.take k).drop 0).length = k := by simp; omega
 have inner : ∀ i, i < k -> zf9 c k p (.l4 (i : Int) (zK c.cores i) ((zK c.cores i).length) 0) = cond ((List.range (zbA c i)).any (zgE c p i)) (some true) (zf9 c k p (.l0 ((i + 1 : Nat) : Int))) := fun i hi => by
  have hic : i < c.cores.length := by omega
  have hwl : zbA c i * 24 <= B47 := hc.core i hic
  exact zaj (n := zbA c i) (f := fun n => zf9 c k p (.l4 (i : Int) (zK c.cores i) ((zK c.cores i).length) (n : Int))) (q := zgE c p i) (r := some true) (e := zf9 c k p (.l0 ((i + 1 : Nat) : Int))) (fun n hn => by
   have hn' : n < (zK c.cores i).length := hn
   rw [zgD]
   simp only [zdo, zW, cnT, zQ hn', zm hn', zi n (by omega), id, zlg]
   rfl) (by
   rw [zgD]
   have hn' : decide ((zbA c i : Int) < ((zK c.cores i).length : Int)) = false := zR (Nat.le_refl _)
   simp only [zdo, hn', cnF, zi i (by omega), id])
 have outer := zaj (n := k) (f := fun i => zf9 c k p (.l0 (i : Int))) (q := fun i => (List.range (zbA c i)).any (zgE c p i)) (r := some true) (e := some false) (fun i hi => by
  rw [zgD]
  simp only [zdo, zW, htl, zQ hi, zm hi, cnT, zOR hi, id]
  exact inner i hi) (by
  rw [zgD]
  simp only [zdo, zW, htl, zR (Nat.le_refl _), cnF, id])
 unfold zq2 zjc
 rw [zqb hk, cnT]
 exact Eq.trans outer (zmw _)
noncomputable def sW (c : Config) (k : Nat) : Nat -> Int
 | 0 => 0
 | n + 1 => i64.wrap (sW c k n + i64.wrap ((Win c k n).usable + (Win c k n).slack))
noncomputable def w1 (c : Config) (k n : Nat) : Bool := decide ((-1) <= (Win c k n).partition) && decide ((Win c k n).partition <= i64.wrap ((c.partitions.length : Int) - 1))
noncomputable def w2 (c : Config) (k n : Nat) : Bool := decide (1 <= (Win c k n).usable) && decide ((Win c k n).usable <= 16384)
noncomputable def w3 (c : Config) (k n : Nat) : Bool := decide (82 <= (Win c k n).slack) && decide ((Win c k n).slack <= 16384)
noncomputable def zDH (c : Config) (k n : Nat) : Bool := !(w1 c k n && (w2 c k n && (w3 c k n && !(zhu c k (Win c k n).partition))))
noncomputable def zgR (c : Config) (k : Nat) : Bool := (decide (1 <= zbA c k) && decide (zbA c k <= 16)) && (!((List.range (zbA c k)).any (zDH c k)) && (sW c k (zbA c k) == c.major))
theorem zyQ {c : Config} {k : Nat} : (decide ((1 : Int) <= ((zK c.cores k).length : Int)) && decide (((zK c.cores k).length : Int) <= 16)) = (decide (1 <= zbA c k) && decide (zbA c k <= 16)) := by
 rw [Bool.eq_iff_iff]; simp only [Bool.and_eq_true, decide_eq_true_eq]; unfold zbA; omega
theorem zKS {c : Config} (hc : zbu c) {k : Nat} (hk : k < c.cores.length) : zb8 (zxg c k) (zgR c k) := by
 have hB : B47 = 140737488351232 := rfl
 have hwl : zbA c k * 24 <= B47 := hc.core k hk
 have hl := zcJ zb8 (n := zbA c k) (f := fun n => zwP c k (.l0 (sW c k n) (n : Int))) (q := zDH c k) (e := sW c k (zbA c k) == c.major) (fun n hn => by
  have hn' : n < (zK c.cores k).length := hn
  have hW : zcc (zK c.cores k) n = Win c k n := rfl
  have h1 : (decide ((-1) <= (Win c k n).partition) && decide ((Win c k n).partition <= i64.wrap ((c.partitions.length : Int) - 1))) = w1 c k n := rfl
  have h2 : (decide (1 <= (Win c k n).usable) && decide ((Win c k n).usable <= 16384)) = w2 c k n := rfl
  have h3 : (decide (82 <= (Win c k n).slack) && decide ((Win c k n).slack <= 16384)) = w3 c k n := rfl
  have h4 : i64.wrap (sW c k n + i64.wrap ((Win c k n).usable + (Win c k n).slack)) = sW c k (n + 1) := rfl
  obtain ⟨s1, s2⟩ := zw (zHs hc (Nat.le_of_lt hk) (Win c k n).partition)
  have s1' : zwA c k (Win c k n).partition = zhu c k (Win c k n).partition := s1
  have s2' : zra c k (Win c k n).partition = true := s2
  rw [zt8]
  simp only [zhG, zW, zm hk, cnT, zQ hn', zm hn', zjr, hW, h1, h2, h3, h4, s1', s2', zi n (by omega), id]
  unfold zDH
  cases w1 c k n <;> cases w2 c k n <;> cases w3 c k n <;> cases zhu c k (Win c k n).partition <;> first
   | exact ⟨fun _ => ⟨_, rfl, rfl⟩, fun h => by cases h⟩
   | exact ⟨fun h => by (cases h), fun _ => rfl⟩) (fun _ => by
  rw [zt8]
  have hn' : decide ((zbA c k : Int) < ((zK c.cores k).length : Int)) = false := zR (Nat.le_refl _)
  simp only [zhG, zW, zm hk, cnT, hn', cnF, id]
  cases sW c k (zbA c k) == c.major <;> exact ⟨_, rfl, rfl⟩)
 unfold zxg zot
 simp only [zW, zm hk, cnT, zjr, zyQ, id]
 unfold zgR
 cases decide (1 <= zbA c k) && decide (zbA c k <= 16) with
 | false => exact ⟨_, rfl, rfl⟩
 | true => simpa [show sW c k 0 = 0 from rfl] using hl
theorem zKR {c : Config} (hc : zbu c) {k : Nat} (hk : k < c.cores.length) : AnsF (zqP c k) (zgR c k) := by
 have hB : B47 = 140737488351232 := rfl
 have hwl : zbA c k * 24 <= B47 := hc.core k hk
 have hl := zcJ AnsF (n := zbA c k) (f := fun n => zqp c k (.l0 (sW c k n) (n : Int))) (q := zDH c k) (e := sW c k (zbA c k) == c.major) (fun n hn => by
  have hn' : n < (zK c.cores k).length := hn
  have hW : zcc (zK c.cores k) n = Win c k n := rfl
  have h1 : (decide ((-1) <= (Win c k n).partition) && decide ((Win c k n).partition <= i64.wrap ((c.partitions.length : Int) - 1))) = w1 c k n := rfl
  have h2 : (decide (1 <= (Win c k n).usable) && decide ((Win c k n).usable <= 16384)) = w2 c k n := rfl
  have h3 : (decide (82 <= (Win c k n).slack) && decide ((Win c k n).slack <= 16384)) = w3 c k n := rfl
  have h4 : i64.wrap (sW c k n + i64.wrap ((Win c k n).usable + (Win c k n).slack)) = sW c k (n + 1) := rfl
  obtain ⟨s1, s2⟩ := zw (zHr hc (Nat.le_of_lt hk) (Win c k n).partition)
  have s1' : zwI c k (Win c k n).partition = _ := s1
  have s2' : zng c k (Win c k n).partition = true := s2
  rw [zph]
  simp only [zeG, zW, cnT, zQ hn', zm hn', zeZ, hW, h1, h2, h3, h4, s1', s2', zi n (by omega), id, zcu]
  generalize hsp : ((List.range k).any fun i => (List.range (zbA c i)).any (zgE c (Win c k n).partition i)) = sa
  have hgo : ∀ b2 b3 b4 : Bool, ∀ X : Option AdmitFound, ((!(b2 && (b3 && b4))) = true -> AnsF (cond (zaU [zr b2 419 (zam k n), zr b3 420 (zam k n), zr b4 422 (zam k n)]) (cond (!(za1 (zaK [zr b2 419 (zam k n), zr b3 420 (zam k n), zr b4 422 (zam k n)]))) (some (zaK [zr b2 419 (zam k n), zr b3 420 (zam k n), zr b4 422 (zam k n)])) X) none) false) /\ ((!(b2 && (b3 && b4))) = false -> (cond (zaU [zr b2 419 (zam k n), zr b3 420 (zam k n), zr b4 422 (zam k n)]) (cond (!(za1 (zaK [zr b2 419 (zam k n), zr b3 420 (zam k n), zr b4 422 (zam k n)]))) (some (zaK [zr b2 419 (zam k n), zr b3 420 (zam k n), zr b4 422 (zam k n)])) X) none) = X) := fun b2 b3 b4 X => by
   obtain ⟨k1, k2, k3, k4⟩ := zdM (zBg b2 b3 b4 419 420 422 (zam k n) (zam k n) (zam k n) (by decide) (by decide) (by decide))
   generalize [zr b2 419 (zam k n), zr b3 420 (zam k n), zr b4 422 (zam k n)] = L at k1 k2 k3 k4 ⊢
   have k1' : zaU L = true := k1
   have k2' : za1 (zaK L) = (b2 && (b3 && b4)) := k2
   rw [k1', k2', cnT]
   cases hb : b2 && (b3 && b4) with
   | false => exact ⟨fun _ => .err rfl (k4 hb), fun h => by cases h⟩
   | true => exact ⟨fun h => by (cases h), fun _ => rfl⟩
  have hsplit : w1 c k n = true -> sa = zhu c k (Win c k n).partition := fun h1 => by
   simp only [w1, Bool.and_eq_true, decide_eq_true_eq] at h1
   rw [← hsp]
   unfold zhu
   refine zp1 fun i _ => zp1 fun j _ => ?_
   unfold zgE znp
   congr 1
   rw [Bool.eq_iff_iff]; simp; omega
  unfold zDH
  cases hw1 : w1 c k n with
  | true =>
   rw [hsplit hw1]
   exact hgo (w2 c k n) (w3 c k n) (!(zhu c k (Win c k n).partition)) _
  | false =>
   refine ⟨fun _ => (hgo false (w3 c k n) (!sa) _).1 rfl, fun h => by cases h⟩) (fun _ => by
  rw [zph]
  have hn' : decide ((zbA c k : Int) < ((zK c.cores k).length : Int)) = false := zR (Nat.le_refl _)
  simp only [zeG, zW, hn', cnF, id]
  cases sW c k (zbA c k) == c.major with
  | true => rw [znz]; exact .fine rfl
  | false => rw [ziu]; exact .err' rfl (by decide))
 unfold zqP zi4
 simp only [zW, zm hk, cnT, zeZ, zyQ, id]
 unfold zgR
 cases decide (1 <= zbA c k) && decide (zbA c k <= 16) with
 | false => exact .err' rfl (by decide)
 | true => simpa [show sW c k 0 = 0 from rfl] using hl
noncomputable def zbr (c : Config) : Bool := (decide (1 <= c.frames) && decide (c.frames <= 1024)) && ((decide (1 <= c.major) && decide (c.major <= 16384)) && ((decide (1 <= c.cores.length) && decide (c.cores.length <= 4)) && ((decide (1 <= c.partitions.length) && decide (c.partitions.length <= 8)) && decide (c.channels.length <= 16))))
noncomputable def zcY (c : Config) : Bool := !((List.range c.partitions.length).any fun p => !(zdx c p))
noncomputable def zce (c : Config) : Bool := !((List.range c.channels.length).any fun h => !(zfk c h))
noncomputable def zbH (c : Config) : Bool := !((List.range c.cores.length).any fun k => !(zgR c k))
noncomputable def zh7 (c : Config) : Bool := zbr c && (zcY c && (zce c && zbH c))
theorem zhb {n : Nat} {q : Nat -> Bool} (h : (!((List.range n).any fun i => !(q i))) = true) : ∀ i, i < n -> q i = true := fun i hi => by
 have h' : ((List.range n).any fun i => !(q i)) = false := by simpa using h
 have := any_f.1 h' i hi
 simpa using this
theorem zuZ {c : Config} (h1 : zbr c = true) (h2 : ∀ p, p < c.partitions.length -> zdx c p = true) : Few c := by
 simp only [zbr, Bool.and_eq_true, decide_eq_true_eq] at h1
 refine ⟨h1.2.2.2.1.2, fun q hq => ?_⟩
 have := h2 q hq
 simp only [zdx, Bool.and_eq_true, decide_eq_true_eq] at this
 exact this.1.2
theorem zgo {o : Option (Int × Where)} {b : Bool} (h : zb8 o b) : o.isSome = true /\ ((o.getD default).1 == 0) = b := by
 obtain ⟨r, rfl, h⟩ := h
 exact ⟨rfl, h⟩
theorem zqd (n a b : Nat) : (decide ((a : Int) <= (n : Int)) && decide ((n : Int) <= (b : Int))) = (decide (a <= n) && decide (n <= b)) := by
 rw [Bool.eq_iff_iff]; simp only [Bool.and_eq_true, decide_eq_true_eq]; omega
theorem zyP (c : Config) : (zvq c == 0) = zbr c := by
 have : zyR (zna c) (zbr c) := by
  unfold zna zor zbr
  have e1 := zqd c.cores.length 1 4
  have e2 := zqd c.partitions.length 1 8
  have e3 : decide ((c.channels.length : Int) > 16) = !(decide (c.channels.length <= 16)) := by rw [zu7]; congr 1; rw [Bool.eq_iff_iff, decide_eq_true_eq, decide_eq_true_eq]; omega
  simp only [zjr, id]
  rw [show (decide ((1 : Int) <= (c.cores.length : Int)) && decide ((c.cores.length : Int) <= 4)) = _ from e1, show (decide ((1 : Int) <= (c.partitions.length : Int)) && decide ((c.partitions.length : Int) <= 8)) = _ from e2, e3]
  cases decide (1 <= c.frames) && decide (c.frames <= 1024) <;> cases decide (1 <= c.major) && decide (c.major <= 16384) <;> cases decide (1 <= c.cores.length) && decide (c.cores.length <= 4) <;> cases decide (1 <= c.partitions.length) && decide (c.partitions.length <= 8) <;> cases decide (c.channels.length <= 16) <;> exact ⟨_, rfl, rfl⟩
 exact (zp0 this).2
theorem zET {c : Config} (hc : zbu c) {kb : Bool} (hk : zh7 c = true -> zuk c = some kb) : zb8 (zug c) (zh7 c && kb) := by
 have hB : B47 = 140737488351232 := rfl
 have hpl := hc.parts
 have hcl := hc.cores
 have hhl := hc.chans
 unfold zug zod
 rw [zyP]
 unfold zh7
 cases hw : zbr c with
 | false =>
  refine ⟨_, rfl, ?_⟩
  show (zvq c == 0) = _
  rw [zyP, hw]; rfl
 | true =>
 have h8 : zbr c = true -> zcY c = true -> zce c = true -> zb8 (zil c (.l8 0)) (zbH c && kb) := fun hw hp hh => by
  refine zcJ zb8 (n := c.cores.length) (f := fun k => zil c (.l8 (k : Int))) (q := fun k => !(zgR c k)) (e := kb) (fun k hkk => ?_) (fun hq => ?_)
  . obtain ⟨k1, k2⟩ := zgo (zKS hc hkk)
    have k1' : zxT c k = true := k1
    have k2' : ((zvs c k).1 == 0) = zgR c k := k2
    rw [zeu]
    simp only [zec, zQ hkk, cnT, k1', k2', zi k (by omega), id]
    cases hb : zgR c k with
    | true => exact ⟨fun h => by (cases h), fun _ => rfl⟩
    | false => exact ⟨fun _ => ⟨_, rfl, by show ((zvs c k).1 == 0) = _; rw [k2', hb]⟩, fun h => by cases h⟩
  . have hco : zbH c = true := by
     unfold zbH
     rw [any_f.2 hq]; rfl
    obtain ⟨a1, a2⟩ := zw (hk (by unfold zh7; rw [hw, hp, hh, hco]; rfl))
    have a1' : zHa c = kb := a1
    have a2' : zxU c = true := a2
    rw [zeu]
    simp only [zec, zR (Nat.le_refl _), cnF, a1', a2', cnT, id]
    cases kb <;> exact ⟨_, rfl, rfl⟩
 have h4 : zbr c = true -> zcY c = true -> zb8 (zil c (.l4 0)) (zce c && (zbH c && kb)) := fun hw hp => by
  have hfew := zuZ hw (zhb hp)
  refine zcJ zb8 (n := c.channels.length) (f := fun k => zil c (.l4 (k : Int))) (q := fun k => !(zfk c k)) (e := zbH c && kb) (fun k hkk => ?_) (fun hq => ?_)
  . obtain ⟨k1, k2⟩ := zp0 (zzA hfew hkk)
    have k1' : zxS c k = true := k1
    have k2' : ((zz7 c k) == 0) = zfk c k := k2
    rw [zeu]
    simp only [zec, zQ hkk, cnT, k1', k2', zi k (by omega), id]
    cases hb : zfk c k with
    | true => exact ⟨fun h => by (cases h), fun _ => rfl⟩
    | false => exact ⟨fun _ => ⟨_, rfl, by show ((zz7 c k) == 0) = _; rw [k2', hb]⟩, fun h => by cases h⟩
  . have hco : zce c = true := by
     unfold zce
     rw [any_f.2 hq]; rfl
    rw [zeu]
    simp only [zec, zR (Nat.le_refl _), cnF, id]
    exact h8 hw hp hco
 have h0 : zb8 (zil c (.l0 0)) (zcY c && (zce c && (zbH c && kb))) := by
  refine zcJ zb8 (n := c.partitions.length) (f := fun k => zil c (.l0 (k : Int))) (q := fun k => !(zdx c k)) (e := zce c && (zbH c && kb)) (fun k hkk => ?_) (fun hq => ?_)
  . obtain ⟨k1, k2⟩ := zgo (ztI hc hkk)
    have k1' : zxR c k = true := k1
    have k2' : ((zvr c k).1 == 0) = zdx c k := k2
    rw [zeu]
    simp only [zec, zQ hkk, cnT, k1', k2', zi k (by omega), id]
    cases hb : zdx c k with
    | true => exact ⟨fun h => by (cases h), fun _ => rfl⟩
    | false => exact ⟨fun _ => ⟨_, rfl, by show ((zvr c k).1 == 0) = _; rw [k2', hb]⟩, fun h => by cases h⟩
  . have hco : zcY c = true := by
     unfold zcY
     rw [any_f.2 hq]; rfl
    rw [zeu]
    simp only [zec, zR (Nat.le_refl _), cnF, id]
    exact h4 hw hco
 simpa [Bool.and_assoc] using h0
noncomputable def zhR (c : Config) : List Clo := [(Clo.c130 c), (Clo.c133 c), (Clo.c134 c), (Clo.c135 c), (Clo.c136 c)]
noncomputable def QL1 (c : Config) (n : Nat) : List Clo := zhR c ++ (List.range n).map fun p : Nat => Clo.c137 c (p : Int)
noncomputable def QL2 (c : Config) (n : Nat) : List Clo := QL1 c c.partitions.length ++ (List.range n).map fun p : Nat => Clo.c139 c (p : Int)
noncomputable def QL3 (c : Config) (n : Nat) : List Clo := QL2 c c.channels.length ++ (List.range n).map fun p : Nat => Clo.c141 c (p : Int)
noncomputable def QL4 (c : Config) : List Clo := QL3 c c.cores.length ++ [Clo.c143 c]
theorem zaR {α : Type} (g : Nat -> α) (n : Nat) : (List.range (n + 1)).map g = (List.range n).map g ++ [g n] := by simp [List.range_succ]
theorem ze7 {c : Config} (hc : zbu c) : zCB c = some (QL4 c) := by
 have hB : B47 = 140737488351232 := rfl
 have hpl := hc.parts
 have hcl := hc.cores
 have hhl := hc.chans
 have n1 : ∀ n, (QL1 c n).length = 5 + n := fun n => by simp [QL1, zhR]; omega
 have n2 : ∀ n, (QL2 c n).length = 5 + c.partitions.length + n := fun n => by simp [QL2, n1]
 have n3 : ∀ n, (QL3 c n).length = 5 + c.partitions.length + c.channels.length + n := fun n => by simp [QL3, n2]
 have l1 := zz (n := c.partitions.length) (f := fun i l => zmR c (.l0 (i : Int) l)) (S := QL1 c) (fun i hi => by
  rw [zex]
  simp only [zef, zQ hi, cnT, zi i (by omega), n1]
  rw [zaO (by simp only [List.length_singleton]; omega), cnT]
  unfold QL1
  rw [zaR, List.append_assoc])
 have l2 := zz (n := c.channels.length) (f := fun i l => zmR c (.l4 (i : Int) l)) (S := QL2 c) (fun i hi => by
  rw [zex]
  simp only [zef, zQ hi, cnT, zi i (by omega), n2]
  rw [zaO (by simp only [List.length_singleton]; omega), cnT]
  unfold QL2
  rw [zaR, List.append_assoc])
 have l3 := zz (n := c.cores.length) (f := fun i l => zmR c (.l8 (i : Int) l)) (S := QL3 c) (fun i hi => by
  rw [zex]
  simp only [zef, zQ hi, cnT, zi i (by omega), n3]
  rw [zaO (by simp only [List.length_singleton]; omega), cnT]
  unfold QL3
  rw [zaR, List.append_assoc])
 have z1 : QL1 c 0 = zhR c := by simp [QL1]
 have z2 : QL2 c 0 = QL1 c c.partitions.length := by simp [QL2]
 have z3 : QL3 c 0 = QL2 c c.channels.length := by simp [QL3]
 rw [z1] at l1; rw [z2] at l2; rw [z3] at l3
 refine Eq.trans (show _ = zmR c (.l0 0 (zhR c)) from rfl) (Eq.trans l1 ?_)
 rw [zex]
 simp only [zef, zR (Nat.le_refl _), cnF]
 refine Eq.trans l2 ?_
 rw [zex]
 simp only [zef, zR (Nat.le_refl _), cnF]
 refine Eq.trans l3 ?_
 rw [zex]
 simp only [zef, zR (Nat.le_refl _), cnF, n3]
 rw [zaO (by simp only [List.length_singleton]; omega), cnT]
 rfl
theorem zAw (c : Config) : (QL4 c).length = 6 + c.partitions.length + c.channels.length + c.cores.length := by simp [QL4, QL3, QL2, QL1, zhR]; omega
theorem zAv (c : Config) {i : Nat} (hi : i < 5) : zfh (QL4 c) i = (zhR c).getD i Clo.none := by
 have h : (zhR c).length = 5 := rfl
 unfold zfh QL4 QL3 QL2 QL1
 rw [z8, if_pos (by simp; omega), z8, if_pos (by simp; omega), z8, if_pos (by simp; omega), z8, if_pos (by omega)]
theorem zdu {α : Type} (g : Nat -> α) {n i : Nat} (hi : i < n) (d : α) : ((List.range n).map g).getD i d = g i := by simp [List.getD, hi]
theorem L4_1 (c : Config) {p : Nat} (hp : p < c.partitions.length) : zfh (QL4 c) (5 + p) = Clo.c137 c (p : Int) := by
 have h : (zhR c).length = 5 := rfl
 unfold zfh QL4 QL3 QL2 QL1
 rw [z8, if_pos (by simp; omega), z8, if_pos (by simp; omega), z8, if_pos (by simp; omega), z8, if_neg (by omega), h, Nat.add_sub_cancel_left, zdu _ hp]
theorem zuF (c : Config) (n : Nat) : (QL1 c n).length = 5 + n := by simp [QL1, zhR]; omega
theorem zpY (c : Config) (n : Nat) : (QL2 c n).length = 5 + c.partitions.length + n := by simp [QL2, zuF]
theorem zpZ (c : Config) (n : Nat) : (QL3 c n).length = 5 + c.partitions.length + c.channels.length + n := by simp [QL3, zpY]
theorem L4_2 (c : Config) {p : Nat} (hp : p < c.channels.length) : zfh (QL4 c) (5 + c.partitions.length + p) = Clo.c139 c (p : Int) := by
 unfold zfh QL4
 rw [z8, if_pos (by rw [zpZ]; omega)]
 unfold QL3
 rw [z8, if_pos (by rw [zpY]; omega)]
 unfold QL2
 rw [z8, if_neg (by rw [zuF]; omega), zuF, Nat.add_sub_cancel_left, zdu _ hp]
theorem L4_3 (c : Config) {p : Nat} (hp : p < c.cores.length) : zfh (QL4 c) (5 + c.partitions.length + c.channels.length + p) = Clo.c141 c (p : Int) := by
 unfold zfh QL4
 rw [z8, if_pos (by rw [zpZ]; omega)]
 unfold QL3
 rw [z8, if_neg (by rw [zpY]; omega), zpY, Nat.add_sub_cancel_left, zdu _ hp]
theorem L4_4 (c : Config) : zfh (QL4 c) (5 + c.partitions.length + c.channels.length + c.cores.length) = Clo.c143 c := by
 unfold zfh QL4
 rw [z8, if_neg (by rw [zpZ]; omega), zpZ, Nat.sub_self]
 rfl
noncomputable def fC (c : Config) (i : Nat) : Option (Int × Where) := zt6 c (.l0 (i : Int))
theorem zc5 {c : Config} (hc : zbu c) {i : Nat} {x : Clo} (hi : i < (QL4 c).length) (hx : zfh (QL4 c) i = x) {b : Bool} (h1 : zKM x = true) (h2 : za1 (ask x) = b) (h3 : b = false -> (ask x).e ≠ 0) : (b = false -> zb8 (fC c i) false) /\ (b = true -> fC c i = fC c (i + 1)) := by
 obtain ⟨q1, q2⟩ := zw (ze7 hc)
 have q1' : zqn c = QL4 c := q1
 have hB : B47 = 140737488351232 := rfl
 have hpl := hc.parts
 have hcl := hc.cores
 have hhl := hc.chans
 have hl := zAw c
 unfold fC
 rw [zt7]
 simp only [zhF, q1', zW, zQ hi, zm hi, hx, h1, cnT, zcu, h2, zi i (by omega), id]
 cases b with
 | true => exact ⟨fun h => by (cases h), fun _ => rfl⟩
 | false =>
  refine ⟨fun _ => ⟨_, rfl, ?_⟩, fun h => by cases h⟩
  show ((ask x).e == 0) = false
  simpa using h3 rfl
theorem zeA {b : Bool} {e : Int} {w : Where} (he : e ≠ 0) : b = false -> (zr b e w).e ≠ 0 := fun h => by subst h; exact he
theorem zES {c : Config} (hc : zbu c) {kb : Bool} (hk : zh7 c = true -> zm2 c = some kb) : zb8 (zuh c) (zh7 c && kb) := by
 obtain ⟨q1, q2⟩ := zw (ze7 hc)
 have q2' : zya c = true := q2
 have hl := zAw c
 have e1 := zqd c.cores.length 1 4
 have e2 := zqd c.partitions.length 1 8
 have e3 : decide ((c.channels.length : Int) <= 16) = decide (c.channels.length <= 16) := by rw [Bool.eq_iff_iff, decide_eq_true_eq, decide_eq_true_eq]; omega
 have s0 := zc5 hc (i := 0) (by omega) (zAv c (by omega)) (b := decide (1 <= c.frames) && decide (c.frames <= 1024)) rfl (by
  show za1 (zr (zY c.frames 1 1024) 400 nowhere) = _
  rw [za3 (by decide), zeZ]) (by
  show _ -> (zr (zY c.frames 1 1024) 400 nowhere).e ≠ 0
  rw [zeZ]; exact zeA (by decide))
 have s1 := zc5 hc (i := 1) (by omega) (zAv c (by omega)) (b := decide (1 <= c.major) && decide (c.major <= 16384)) rfl (by
  show za1 (zr (zY c.major 1 16384) 401 nowhere) = _
  rw [za3 (by decide), zeZ]) (by
  show _ -> (zr (zY c.major 1 16384) 401 nowhere).e ≠ 0
  rw [zeZ]; exact zeA (by decide))
 have s2 := zc5 hc (i := 2) (by omega) (zAv c (by omega)) (b := decide (1 <= c.cores.length) && decide (c.cores.length <= 4)) rfl (by
  show za1 (zr (zY c.cores.length 1 4) 402 nowhere) = _
  rw [za3 (by decide), zeZ]; exact e1) (by
  show _ -> (zr (zY c.cores.length 1 4) 402 nowhere).e ≠ 0
  rw [zeZ, ← e1]; exact zeA (by decide))
 have s3 := zc5 hc (i := 3) (by omega) (zAv c (by omega)) (b := decide (1 <= c.partitions.length) && decide (c.partitions.length <= 8)) rfl (by
  show za1 (zr (zY c.partitions.length 1 8) 403 nowhere) = _
  rw [za3 (by decide), zeZ]; exact e2) (by
  show _ -> (zr (zY c.partitions.length 1 8) 403 nowhere).e ≠ 0
  rw [zeZ, ← e2]; exact zeA (by decide))
 have s4 := zc5 hc (i := 4) (by omega) (zAv c (by omega)) (b := decide (c.channels.length <= 16)) rfl (by
  show za1 (zr (decide ((c.channels.length : Int) <= 16)) 404 nowhere) = _
  rw [za3 (by decide), e3]) (by
  show _ -> (zr (decide ((c.channels.length : Int) <= 16)) 404 nowhere).e ≠ 0
  rw [e3]; exact zeA (by decide))
 have hend : zh7 c = true -> zb8 (fC c (5 + c.partitions.length + c.channels.length + c.cores.length)) kb := fun hpre => by
  obtain ⟨a1, a2⟩ := zw (hk hpre)
  have a1' : zwC c = kb := a1
  have a2' : zrl c = true := a2
  obtain ⟨b1, b2⟩ := zw (show zqQ c = some (zr kb 423 nowhere) by
   unfold zqQ zlG
   rw [a1', a2']; rfl)
  have st := zc5 hc (i := 5 + c.partitions.length + c.channels.length + c.cores.length) (by omega) (L4_4 c) (b := kb) b2 (by
   show za1 (zih c) = _
   rw [show zih c = _ from b1, za3 (by decide)]) (by
   show _ -> (zih c).e ≠ 0
   rw [show zih c = _ from b1]; exact zeA (by decide))
  cases hkb : kb with
  | false => exact st.1 hkb
  | true =>
   rw [st.2 hkb]
   obtain ⟨q1, q2⟩ := zw (ze7 hc)
   have q1' : zqn c = QL4 c := q1
   unfold fC
   rw [zt7]
   simp only [zhF, q1', zR (show (QL4 c).length <= 5 + c.partitions.length + c.channels.length + c.cores.length + 1 by omega), cnF, id]
   exact ⟨_, rfl, rfl⟩
 have h8 : zbr c = true -> zcY c = true -> zce c = true -> zb8 (fC c (5 + c.partitions.length + c.channels.length)) (zbH c && kb) := fun hw hp hh => by
  refine zcJ zb8 (n := c.cores.length) (f := fun k => fC c (5 + c.partitions.length + c.channels.length + k)) (q := fun k => !(zgR c k)) (e := kb) (fun k hkk => ?_) (fun hq => ?_)
  . obtain ⟨k1, k2, k3, k4⟩ := zdM (zKR hc hkk)
    have k1' : zrk c k = true := k1
    obtain ⟨b1, b2⟩ := zw (show zqO c k = some (zo7 c k) by
     unfold zqO zlF
     rw [k1']; rfl)
    have st := zc5 hc (by omega) (L4_3 c hkk) (b := zgR c k) b2 (by
     show za1 (zig c k) = _
     rw [show zig c k = _ from b1]; exact k2) (by
     show _ -> (zig c k).e ≠ 0
     rw [show zig c k = _ from b1]; exact k4)
    exact ⟨fun h => st.1 (by simpa using h), fun h => st.2 (by simpa using h)⟩
  . have hco : zbH c = true := by
     unfold zbH
     rw [any_f.2 hq]; rfl
    exact hend (by unfold zh7; rw [hw, hp, hh, hco]; rfl)
 have h4 : zbr c = true -> zcY c = true -> zb8 (fC c (5 + c.partitions.length)) (zce c && (zbH c && kb)) := fun hw hp => by
  have hfew := zuZ hw (zhb hp)
  refine zcJ zb8 (n := c.channels.length) (f := fun k => fC c (5 + c.partitions.length + k)) (q := fun k => !(zfk c k)) (e := zbH c && kb) (fun k hkk => ?_) (fun hq => ?_)
  . obtain ⟨k1, k2, k3, k4⟩ := zdM (zzy hfew hkk)
    have k1' : zrj c k = true := k1
    obtain ⟨b1, b2⟩ := zw (show zqM c k = some (zo6 c k) by
     unfold zqM zlE
     rw [k1']; rfl)
    have st := zc5 hc (by omega) (L4_2 c hkk) (b := zfk c k) b2 (by
     show za1 (zif c k) = _
     rw [show zif c k = _ from b1]; exact k2) (by
     show _ -> (zif c k).e ≠ 0
     rw [show zif c k = _ from b1]; exact k4)
    exact ⟨fun h => st.1 (by simpa using h), fun h => st.2 (by simpa using h)⟩
  . have hco : zce c = true := by
     unfold zce
     rw [any_f.2 hq]; rfl
    exact h8 hw hp hco
 have h0 : zbr c = true -> zb8 (fC c 5) (zcY c && (zce c && (zbH c && kb))) := fun hw => by
  refine zcJ zb8 (n := c.partitions.length) (f := fun k => fC c (5 + k)) (q := fun k => !(zdx c k)) (e := zce c && (zbH c && kb)) (fun k hkk => ?_) (fun hq => ?_)
  . obtain ⟨k1, k2, k3, k4⟩ := zdM (ztH hc hkk)
    have k1' : zri c k = true := k1
    obtain ⟨b1, b2⟩ := zw (show zqK c k = some (zo5 c k) by
     unfold zqK zlD
     rw [k1']; rfl)
    have st := zc5 hc (by omega) (L4_1 c hkk) (b := zdx c k) b2 (by
     show za1 (zie c k) = _
     rw [show zie c k = _ from b1]; exact k2) (by
     show _ -> (zie c k).e ≠ 0
     rw [show zie c k = _ from b1]; exact k4)
    exact ⟨fun h => st.1 (by simpa using h), fun h => st.2 (by simpa using h)⟩
  . have hco : zcY c = true := by
     unfold zcY
     rw [any_f.2 hq]; rfl
    exact h4 hw hco
 have hgo : zb8 (fC c 0) (zbr c && (zcY c && (zce c && (zbH c && kb)))) := by
  cases hw : zbr c with
  | true =>
   have hw' := hw
   simp only [zbr, Bool.and_eq_true] at hw'
   obtain ⟨⟨a1, a2⟩, ⟨b1, b2⟩, ⟨c1, c2⟩, ⟨d1, d2⟩, d3⟩ := hw'
   rw [s0.2 (by rw [a1, a2]; rfl), s1.2 (by rw [b1, b2]; rfl), s2.2 (by rw [c1, c2]; rfl), s3.2 (by rw [d1, d2]; rfl), s4.2 d3]
   exact h0 hw
  | false =>
   show zb8 (fC c 0) false
   unfold zbr at hw
   revert hw
   cases ha : (decide (1 <= c.frames) && decide (c.frames <= 1024)) with
   | false => exact fun _ => s0.1 ha
   | true =>
   rw [s0.2 ha]
   cases hb : (decide (1 <= c.major) && decide (c.major <= 16384)) with
   | false => exact fun _ => s1.1 hb
   | true =>
   rw [s1.2 hb]
   cases hcc : (decide (1 <= c.cores.length) && decide (c.cores.length <= 4)) with
   | false => exact fun _ => s2.1 hcc
   | true =>
   rw [s2.2 hcc]
   cases hd : (decide (1 <= c.partitions.length) && decide (c.partitions.length <= 8)) with
   | false => exact fun _ => s3.1 hd
   | true =>
   rw [s3.2 hd]
   cases he : decide (c.channels.length <= 16) with
   | false => exact fun _ => s4.1 he
   | true => intro h; cases h
 unfold zuh zop
 rw [q2', cnT]
 unfold zh7
 have hgo' : zb8 (zt6 c (.l0 0)) _ := hgo
 simpa [Bool.and_assoc] using hgo'
theorem zUM (a : Int) : bop .quo .i64 a 16 = i64.wrap (a.tdiv 16) := by kernel_rfl
theorem zUN (a : Int) : bop .rem .i64 a 16 = a.tmod 16 := by kernel_rfl
theorem zch (a : Nat) (h : a < 4611686018427387904) : bop .quo .i64 (a : Int) 16 = ((a / 16 : Nat) : Int) := by
 rw [zUM, show (a : Int).tdiv 16 = ((a / 16 : Nat) : Int) from by rw [Int.tdiv_eq_ediv_of_nonneg (by omega)]; omega]
 exact z9 _ (by omega) (by omega)
theorem zkY (a : Nat) : bop .rem .i64 (a : Int) 16 = ((a % 16 : Nat) : Int) := by
 rw [zUN, Int.tmod_eq_emod_of_nonneg (by omega)]; omega
theorem zo (n : Int) (m : Nat) (h : n = m) (hm : m < 4611686018427387904) : i64.wrap n = (m : Int) := by subst h; exact z9 _ (by omega) (by omega)
structure zb9 (x : Channel) : Prop where
 kind : x.kind = 1 ∨ x.kind = 2
 words : 1 <= x.words /\ x.words <= 16
 depth : (x.kind = 2 -> 1 <= x.depth /\ x.depth <= 8) /\ (x.kind = 1 -> x.depth = 0)
theorem zER {c : Config} {h : Nat} (hb : zfk c h = true) : zb9 (Ch c h) /\ zgi c h c.partitions.length = 1 /\ 1 <= zej c h c.partitions.length /\ zej c h c.partitions.length <= 4 := by
 simp only [zfk, Bool.and_eq_true, decide_eq_true_eq, beq_iff_eq] at hb
 obtain ⟨⟨⟨⟨k1, k2⟩, k3, k4⟩, k5⟩, k6, k7, k8⟩ := hb
 refine ⟨⟨by omega, ⟨k3, k4⟩, fun hk => ?_, fun hk => ?_⟩, by omega, by omega, ?_⟩
 . rw [show ((Ch c h).kind == 2) = true by simpa using hk] at k5
   simpa using k5
 . rw [show ((Ch c h).kind == 2) = false by simp; omega] at k5
   simpa using k5
 . cases hk : ((Ch c h).kind == 2) with
   | true => rw [hk] at k8; simp only [cnT] at k8; omega
   | false => rw [hk] at k8; simp only [cnF] at k8; omega
noncomputable def body (x : Channel) : Nat := if x.kind = 1 then x.words.toNat else x.depth.toNat * (1 + x.words.toNat)
noncomputable def stg (x : Channel) : Nat := if x.kind = 1 then 2 + x.words.toNat else 1 + body x
noncomputable def prt (x : Channel) : Nat := 3 + body x
theorem zgp {x : Channel} (h : zb9 x) : 1 <= body x /\ body x <= 136 := by
 have hw := h.words
 unfold body
 split
 . omega
 . rename_i hk
   have hk2 : x.kind = 2 := by rcases h.kind with h | h; exact absurd h hk; exact h
   obtain ⟨d1, d2⟩ := h.depth.1 hk2
   have h1 : 1 <= x.depth.toNat := by omega
   have h2 : x.depth.toNat <= 8 := by omega
   have h3 : 1 + x.words.toNat <= 17 := by omega
   exact ⟨Nat.mul_pos h1 (by omega), by have := Nat.mul_le_mul h2 h3; omega⟩
theorem zj2 {x : Channel} (h : zb9 x) : 1 <= stg x /\ stg x <= 137 := by
 have := zgp h
 have hw := h.words
 unfold stg
 split <;> omega
theorem zqh {x : Channel} (h : zb9 x) : 4 <= prt x /\ prt x <= 139 := by have := zgp h; unfold prt; omega
theorem zwm {a b : Int} (ha : 0 <= a) (hb : 0 <= b) : a * b = ((a.toNat * b.toNat : Nat) : Int) := by
 rw [Int.natCast_mul, Int.toNat_of_nonneg ha, Int.toNat_of_nonneg hb]
theorem zAL {x : Channel} (h : zb9 x) : zku x = (body x : Int) := by
 have hl := zgp h
 obtain ⟨w1, w2⟩ := h.words
 refine (zw (r := (body x : Int)) ?_).1
 unfold zjS zi0
 rw [decide_eq_false (by omega), decide_eq_false (by omega), cnF, cnF]
 rcases h.kind with hk | hk
 . rw [hk]
   simp only [beq_self_eq_true, cnT, id]
   unfold body; rw [if_pos hk, Int.toNat_of_nonneg (by omega)]
 . obtain ⟨d1, d2⟩ := h.depth.1 hk
   have hb : body x = x.depth.toNat * (1 + x.words.toNat) := by unfold body; rw [if_neg (by omega)]
   have e1 : i64.wrap (1 + x.words) = ((1 + x.words.toNat : Nat) : Int) := zo _ _ (by omega) (by omega)
   rw [hk, decide_eq_true (by omega), decide_eq_true (by omega), e1]
   have e2 : i64.wrap (x.depth * ((1 + x.words.toNat : Nat) : Int)) = (body x : Int) := zo _ _ (by rw [zwm (by omega) (by omega), hb, zW]) (by omega)
   rw [e2]; rfl
theorem zHz {x : Channel} (h : zb9 x) : zvy x = (stg x : Int) := by
 have hl := zgp h
 obtain ⟨w1, w2⟩ := h.words
 refine (zw (r := (stg x : Int)) ?_).1
 unfold zpC zoB
 rw [zAL h, show ((body x : Int) == 0) = false by simp; omega, cnF]
 rcases h.kind with hk | hk
 . rw [hk]
   simp only [beq_self_eq_true, cnT, id]
   rw [zo _ (2 + x.words.toNat) (by omega) (by omega)]
   unfold stg; rw [if_pos hk]
 . rw [hk, zo (1 + (body x : Int)) (1 + body x) (by omega) (by omega)]
   unfold stg; rw [if_neg (by omega)]; rfl
theorem zB1 {x : Channel} (h : zb9 x) : zvx x = (prt x : Int) := by
 have hl := zgp h
 refine (zw (r := (prt x : Int)) ?_).1
 unfold zpB zoA
 rw [zAL h, show ((body x : Int) == 0) = false by simp; omega, cnF, zo (3 + (body x : Int)) (3 + body x) (by omega) (by omega)]
 rfl
theorem zrx {x : Channel} (h : zb9 x) : zmF x = (stg x : Int) := by
 have hl := zgp h
 obtain ⟨w1, w2⟩ := h.words
 refine (zw (r := (stg x : Int)) ?_).1
 unfold zpz zow
 rw [decide_eq_false (by omega), decide_eq_false (by omega), cnF, cnF]
 rcases h.kind with hk | hk
 . rw [hk]
   simp only [beq_self_eq_true, cnT, id]
   rw [zo _ (2 + x.words.toNat) (by omega) (by omega)]
   unfold stg; rw [if_pos hk]
 . obtain ⟨d1, d2⟩ := h.depth.1 hk
   have hb : body x = x.depth.toNat * (1 + x.words.toNat) := by unfold body; rw [if_neg (by omega)]
   have e1 : i64.wrap (1 + x.words) = ((1 + x.words.toNat : Nat) : Int) := zo _ _ (by omega) (by omega)
   have e2 : i64.wrap (x.depth * ((1 + x.words.toNat : Nat) : Int)) = (body x : Int) := zo _ _ (by rw [zwm (by omega) (by omega), hb, zW]) (by omega)
   rw [hk, decide_eq_true (by omega), decide_eq_true (by omega), e1, e2, zo (1 + (body x : Int)) (1 + body x) (by omega) (by omega)]
   unfold stg; rw [if_neg (by omega)]; rfl
theorem zOn {x : Channel} (h : zb9 x) : zvv x = (prt x : Int) := by
 have hl := zj2 h
 obtain ⟨w1, w2⟩ := h.words
 refine (zw (r := (prt x : Int)) ?_).1
 unfold zpA zox
 rw [zrx h, show ((stg x : Int) == 0) = false by simp; omega, cnF]
 rcases h.kind with hk | hk
 . rw [hk]
   simp only [beq_self_eq_true, cnT, id]
   rw [zo ((stg x : Int) + 1) (stg x + 1) (by omega) (by omega)]
   have : stg x + 1 = prt x := by unfold stg prt body; rw [if_pos hk, if_pos hk]; omega
   rw [this]
 . rw [hk, zo ((stg x : Int) + 2) (stg x + 2) (by omega) (by omega)]
   have : stg x + 2 = prt x := by unfold stg prt; rw [if_neg (by omega)]; omega
   rw [this]; rfl
structure znU (g : Region) : Prop where
 page : 0 <= g.page /\ g.page <= 255
 pages : 1 <= g.pages /\ g.pages <= 256 - g.page
noncomputable def zdJ (x : Partition) (t i : Nat) : Bool := decide ((zh x.regions i).page.toNat / 16 <= t) && decide (t <= ((zh x.regions i).page.toNat + (zh x.regions i).pages.toNat - 1) / 16)
noncomputable def zq (x : Partition) (t : Nat) : Bool := (List.range x.regions.length).any (zdJ x t)
noncomputable def z5 (x : Partition) : Nat := cnt (zq x) 16
theorem zAh {x : Partition} (hx : x.regions.length <= 8) (hg : ∀ i, i < x.regions.length -> znU (zh x.regions i)) (t : Nat) : zun x t = some (zq x t) := by
 have h := zaj (n := x.regions.length) (f := fun i => zue x t (.l0 (i : Int))) (q := zdJ x t) (r := some true) (e := some false) (fun i hi => by
  have ho := hg i hi
  obtain ⟨p1, p2⟩ := ho.page
  obtain ⟨p3, p4⟩ := ho.pages
  rw [zuf]
  have e1 : bop .quo .i64 (zh x.regions i).page 16 = (((zh x.regions i).page.toNat / 16 : Nat) : Int) := by
   rw [← zch _ (by omega), Int.toNat_of_nonneg p1]
  have e2 : i64.wrap ((zh x.regions i).page + (zh x.regions i).pages) = (((zh x.regions i).page.toNat + (zh x.regions i).pages.toNat : Nat) : Int) := zo _ _ (by omega) (by omega)
  have e3 : i64.wrap ((((zh x.regions i).page.toNat + (zh x.regions i).pages.toNat : Nat) : Int) - 1) = (((zh x.regions i).page.toNat + (zh x.regions i).pages.toNat - 1 : Nat) : Int) := zo _ _ (by omega) (by omega)
  simp only [zhJ, zW, zQ hi, zm hi, cnT, e1, e2, e3, zch _ (show (zh x.regions i).page.toNat + (zh x.regions i).pages.toNat - 1 < 4611686018427387904 by omega), zi i (by omega), id, zlg]
  congr 1
  unfold zdJ
  rw [Bool.eq_iff_iff]; simp only [Bool.and_eq_true, decide_eq_true_eq]; omega) (by
  rw [zuf]
  simp only [zhJ, zR (Nat.le_refl _), cnF, id])
 exact Eq.trans (show _ = zue x t (.l0 0) from rfl) (Eq.trans h (zmw _))
theorem zaM (b : Nat -> Bool) {n j : Nat} (hn : n < 16) (hj : j < 16) : za6 (List.set ([b 0, b 1, b 2, b 3, b 4, b 5, b 6, b 7, b 8, b 9, b 10, b 11, b 12, b 13, b 14, b 15] : List Bool) n true) j = (decide (j = n) || b j) := by
 have e : ([b 0, b 1, b 2, b 3, b 4, b 5, b 6, b 7, b 8, b 9, b 10, b 11, b 12, b 13, b 14, b 15] : List Bool) = (List.range 16).map b := rfl
 rw [e]
 simp only [za6, List.getD, List.getElem?_set, List.length_map, List.length_range, List.getElem?_map, List.getElem?_range hj]
 by_cases h : n = j
 . subst h; simp [hj]
 . rw [if_neg h, decide_eq_false (fun e => h e.symm)]; simp
theorem zAK (b : Nat -> Bool) {j : Nat} (hj : j < 16) : za6 ([b 0, b 1, b 2, b 3, b 4, b 5, b 6, b 7, b 8, b 9, b 10, b 11, b 12, b 13, b 14, b 15] : List Bool) j = b j := by
 have e : ([b 0, b 1, b 2, b 3, b 4, b 5, b 6, b 7, b 8, b 9, b 10, b 11, b 12, b 13, b 14, b 15] : List Bool) = (List.range 16).map b := rfl
 rw [e]
 simp [za6, List.getD, hj]
noncomputable def T0 (x : Partition) (i : Nat) (b : Nat -> Bool) : Option Int := zkA x (.l0 (i : Int) (b 0) (b 1) (b 2) (b 3) (b 4) (b 5) (b 6) (b 7) (b 8) (b 9) (b 10) (b 11) (b 12) (b 13) (b 14) (b 15))
noncomputable def T4 (x : Partition) (i k : Nat) (b : Nat -> Bool) : Option Int := zkA x (.l4 (i : Int) (zh x.regions i).pages (k : Int) (b 0) (b 1) (b 2) (b 3) (b 4) (b 5) (b 6) (b 7) (b 8) (b 9) (b 10) (b 11) (b 12) (b 13) (b 14) (b 15) (zh x.regions i).page (zh x.regions i).pages (zh x.regions i).frame (zh x.regions i).rights)
noncomputable def T8 (x : Partition) (n : Int) (b : Nat -> Bool) (t : Nat) : Option Int := zkA x (.l8 n (b 0) (b 1) (b 2) (b 3) (b 4) (b 5) (b 6) (b 7) (b 8) (b 9) (b 10) (b 11) (b 12) (b 13) (b 14) (b 15) (t : Int))
theorem zEC {x : Partition} {i k : Nat} (ho : znU (zh x.regions i)) (hk : (k : Int) < (zh x.regions i).pages) (b : Nat -> Bool) : T4 x i k b = T4 x i (k + 1) fun j => decide (j = ((zh x.regions i).page.toNat + k) / 16) || b j := by
 obtain ⟨p1, p2⟩ := ho.page
 obtain ⟨p3, p4⟩ := ho.pages
 have e1 : i64.wrap ((zh x.regions i).page + (k : Int)) = (((zh x.regions i).page.toNat + k : Nat) : Int) := zo _ _ (by omega) (by omega)
 have hn : ((zh x.regions i).page.toNat + k) / 16 < 16 := by omega
 unfold T4
 rw [zdG]
 simp only [zdP, decide_eq_true hk, cnT, e1, zch _ (show (zh x.regions i).page.toNat + k < 4611686018427387904 by omega), zW, zm hn, zi k (by omega), id]
 rw [zaM b hn (show 0 < 16 by omega), zaM b hn (show 1 < 16 by omega), zaM b hn (show 2 < 16 by omega), zaM b hn (show 3 < 16 by omega), zaM b hn (show 4 < 16 by omega), zaM b hn (show 5 < 16 by omega), zaM b hn (show 6 < 16 by omega), zaM b hn (show 7 < 16 by omega), zaM b hn (show 8 < 16 by omega), zaM b hn (show 9 < 16 by omega), zaM b hn (show 10 < 16 by omega), zaM b hn (show 11 < 16 by omega), zaM b hn (show 12 < 16 by omega), zaM b hn (show 13 < 16 by omega), zaM b hn (show 14 < 16 by omega), zaM b hn (show 15 < 16 by omega)]
theorem zfv (q : Nat -> Bool) (n : Nat) : (List.range (n + 1)).any q = ((List.range n).any q || q n) := by
 rw [List.range_succ, List.any_append]; simp
theorem zKC {x : Partition} {i : Nat} (hi : i < 4611686018427387904) (ho : znU (zh x.regions i)) (b : Nat -> Bool) : T4 x i 0 b = T0 x (i + 1) fun j => b j || zdJ x j i := by
 obtain ⟨p1, p2⟩ := ho.page
 obtain ⟨p3, p4⟩ := ho.pages
 have h := zz (n := (zh x.regions i).pages.toNat) (f := fun k b => T4 x i k b) (S := fun k j => b j || (List.range k).any fun k' => decide (j = ((zh x.regions i).page.toNat + k') / 16)) (fun k hk => by
  rw [zEC ho (by omega)]
  congr 1
  funext j
  rw [zfv]
  cases b j <;> cases ((List.range k).any fun k' => decide (j = ((zh x.regions i).page.toNat + k') / 16)) <;> cases decide (j = ((zh x.regions i).page.toNat + k) / 16) <;> rfl)
 simp only [List.range_zero, List.any_nil, Bool.or_false] at h
 refine h.trans ?_
 have hb : (fun j => b j || (List.range (zh x.regions i).pages.toNat).any fun k' => decide (j = ((zh x.regions i).page.toNat + k') / 16)) = fun j => b j || zdJ x j i := by
  funext j
  congr 1
  rw [Bool.eq_iff_iff, any_t]
  simp only [zdJ, Bool.and_eq_true, decide_eq_true_eq]
  constructor
  . rintro ⟨k, hk, rfl⟩
    exact ⟨Nat.div_le_div_right (by omega), Nat.div_le_div_right (by omega)⟩
  . rintro ⟨h1, h2⟩
    by_cases hc : 16 * j <= (zh x.regions i).page.toNat
    . exact ⟨0, by omega, by omega⟩
    . exact ⟨16 * j - (zh x.regions i).page.toNat, by omega, by omega⟩
 rw [hb]
 unfold T4 T0
 rw [zdG]
 have e1 : decide ((((zh x.regions i).pages.toNat : Nat) : Int) < (zh x.regions i).pages) = false := decide_eq_false (by omega)
 simp only [zdP, e1, cnF, zi i hi, id]
theorem zKB {x : Partition} (hx : x.regions.length <= 8) (hg : ∀ i, i < x.regions.length -> znU (zh x.regions i)) : T0 x 0 (fun _ => false) = T0 x x.regions.length (zq x) := by
 have h := zz (n := x.regions.length) (f := fun i b => T0 x i b) (S := fun i j => (List.range i).any (zdJ x j)) (fun i hi => by
  have e : T0 x i (fun j => (List.range i).any (zdJ x j)) = T4 x i 0 (fun j => (List.range i).any (zdJ x j)) := by
   unfold T0 T4
   rw [zdG]
   simp only [zdP, zQ hi, zm hi, cnT, zW, id]
   rfl
  rw [e, zKC (by omega) (hg i hi)]
  congr 1
  funext j
  rw [zfv])
 exact h
theorem zCT {x : Partition} (hx : x.regions.length <= 8) (hg : ∀ i, i < x.regions.length -> znU (zh x.regions i)) : zCx x = some (z5 x : Int) := by
 have h8 := zz (n := 16) (f := fun t (n : Nat) => T8 x (n : Int) (zq x) t) (S := fun t => cnt (zq x) t) (fun t ht => by
  have hl := zaF (zq x) t
  unfold T8
  have e35 : ∀ n : Int, zkA x (.l35 n (zq x 0) (zq x 1) (zq x 2) (zq x 3) (zq x 4) (zq x 5) (zq x 6) (zq x 7) (zq x 8) (zq x 9) (zq x 10) (zq x 11) (zq x 12) (zq x 13) (zq x 14) (zq x 15) (t : Int)) = zkA x (.l8 n (zq x 0) (zq x 1) (zq x 2) (zq x 3) (zq x 4) (zq x 5) (zq x 6) (zq x 7) (zq x 8) (zq x 9) (zq x 10) (zq x 11) (zq x 12) (zq x 13) (zq x 14) (zq x 15) ((t + 1 : Nat) : Int)) := fun n => by
   rw [zdG]
   simp only [zdP, zi t (by omega), id]
  rw [zdG]
  simp only [zdP, show decide ((t : Int) < 16) = true from decide_eq_true (by omega), zm ht, cnT, zW, zAK (zq x) ht, zi (cnt (zq x) t) (by omega), id]
  rw [e35, e35, zbc]
  cases zq x t <;> rfl)
 have hT := zKB hx hg
 refine Eq.trans (show _ = T0 x 0 (fun _ => false) from rfl) (Eq.trans hT ?_)
 have e : T0 x x.regions.length (zq x) = T8 x 0 (zq x) 0 := by
  unfold T0 T8
  rw [zdG]
  simp only [zdP, zR (Nat.le_refl _), cnF, id]
  rfl
 rw [e]
 refine Eq.trans h8 ?_
 unfold T8
 rw [zdG]
 simp only [zdP, show decide (((16 : Nat) : Int) < 16) = false from rfl, cnF, id]
 rfl
noncomputable def zc0 (q : Nat -> Nat -> Bool) (p n : Nat) : List LayoutEnd := ((List.range n).filter (q p)).map fun i : Nat => (⟨(p : Int), (i : Int)⟩ : LayoutEnd)
noncomputable def zek (c : Config) (q : Nat -> Nat -> Bool) : Nat -> List LayoutEnd
 | 0 => []
 | n + 1 => zek c q n ++ zc0 q n (zU c n)
theorem zeT (q : Nat -> Nat -> Bool) (p n : Nat) : zc0 q p (n + 1) = zc0 q p n ++ cond (q p n) [⟨(p : Int), (n : Int)⟩] [] := by
 unfold zc0
 rw [List.range_succ, List.filter_append, List.map_append]
 cases h : q p n <;> simp [h]
theorem zel (q : Nat -> Nat -> Bool) (p : Nat) : ∀ n, (zc0 q p n).length = cnt (q p) n
 | 0 => rfl
 | n + 1 => by rw [zeT, List.length_append, zel q p n, zbc]; cases q p n <;> rfl
theorem zda (c : Config) (q : Nat -> Nat -> Bool) : ∀ n, (zek c q n).length = tot (fun p => cnt (q p) (zU c p)) n
 | 0 => rfl
 | n + 1 => by rw [zek, List.length_append, zda c q n, zel]; rfl
noncomputable def zvL (c : Config) (h : Int) : List LayoutEnd := zek c (zbl c h) c.partitions.length
noncomputable def zKT (c : Config) (h : Int) : List LayoutEnd := zek c (zau c h) c.partitions.length
theorem zwh {c : Config} (hw : Few c) (h : Int) : zCw c h = some (zvL c h, zKT c h) := by
 have h8 := hw.parts
 have inner : ∀ q, q < c.partitions.length -> ∀ s d : List LayoutEnd, s.length <= 64 -> d.length <= 64 -> zgT c h (.l4 (q : Int) (q : Int) (P c q).ports ((P c q).ports.length) 0 s d) = zgT c h (.l0 ((q + 1 : Nat) : Int) (s ++ zc0 (zbl c h) q (zU c q)) (d ++ zc0 (zau c h) q (zU c q))) := fun q hq s d hs hd => by
  have hp8 := hw.ports q hq
  have := zz (n := zU c q) (f := fun k (x : List LayoutEnd × List LayoutEnd) => zgT c h (.l4 (q : Int) (q : Int) (P c q).ports ((P c q).ports.length) (k : Int) x.1 x.2)) (S := fun k => (s ++ zc0 (zbl c h) q k, d ++ zc0 (zau c h) q k)) (fun k hk => by
   have hk' : k < (P c q).ports.length := hk
   have l1 := zaF (zbl c h q) k
   have l2 := zaF (zau c h q) k
   have e1 := zel (zbl c h) q k
   have e2 := zel (zau c h) q k
   rw [zgb]
   have b1 : leB (((s ++ zc0 (zbl c h) q k).length + ([(⟨(q : Int), (k : Int)⟩ : LayoutEnd)] : List LayoutEnd).length) * 16) 140737488355328 = true := zaO (by simp only [List.length_append, List.length_singleton]; omega)
   have b2 : leB (((d ++ zc0 (zau c h) q k).length + ([(⟨(q : Int), (k : Int)⟩ : LayoutEnd)] : List LayoutEnd).length) * 16) 140737488355328 = true := zaO (by simp only [List.length_append, List.length_singleton]; omega)
   simp only [zfj, zW, cnT, zQ hk', zm hk', b1, b2, id]
   have e23 : ∀ a b : List LayoutEnd, zgT c h (.l23 (q : Int) (q : Int) (P c q).ports ((P c q).ports.length) (k : Int) a b) = zgT c h (.l4 (q : Int) (q : Int) (P c q).ports ((P c q).ports.length) ((k + 1 : Nat) : Int) a b) := fun a b => by
    rw [zgb]
    simp only [zfj, zi k (by omega), id]
   rw [e23, e23, e23, zeT, zeT]
   unfold zbl zau
   show cond (!((Pt c q k).channel == h)) _ (cond (Pt c q k).source _ _) = _
   cases (Pt c q k).channel == h <;> cases (Pt c q k).source <;> simp)
  dsimp only at this
  rw [show zc0 (zbl c h) q 0 = [] from rfl, show zc0 (zau c h) q 0 = [] from rfl, List.append_nil, List.append_nil] at this
  refine Eq.trans this ?_
  rw [zgb]
  have hi' : decide ((zU c q : Int) < ((P c q).ports.length : Int)) = false := zR (Nat.le_refl _)
  simp only [zfj, hi', cnF, zi q (by omega), id]
 have outer := zz (n := c.partitions.length) (f := fun q (x : List LayoutEnd × List LayoutEnd) => zgT c h (.l0 (q : Int) x.1 x.2)) (S := fun q => (zek c (zbl c h) q, zek c (zau c h) q)) (fun q hq => by
  rw [zgb]
  simp only [zfj, zQ hq, zm hq, cnT, zW, id]
  have s1 := zk2 hw h (n := q) (by omega)
  have s2 := zkS hw h (n := q) (by omega)
  exact inner q hq _ _ (by rw [zda]; exact s1) (by rw [zda]; exact s2))
 refine Eq.trans (show _ = zgT c h (.l0 0 [] []) from rfl) (Eq.trans outer ?_)
 rw [zgb]
 simp only [zfj, zR (Nat.le_refl _), cnF, id]
 rfl
theorem zux (c : Config) (h : Int) : (zvL c h).length = zgi c h c.partitions.length := zda c _ _
theorem zsn (c : Config) (h : Int) : (zKT c h).length = zej c h c.partitions.length := zda c _ _
structure zvX (c : Config) (g : Region) : Prop where
 ok : znU g
 frame : 0 <= g.frame
 fits : g.frame + g.pages <= c.frames
structure zan (c : Config) : Prop where
 few : Few c
 frames : 1 <= c.frames /\ c.frames <= 1024
 least : 1 <= c.partitions.length
 chans : c.channels.length <= 16
 nregs : ∀ p, p < c.partitions.length -> 1 <= zat c p /\ zat c p <= 8
 regs : ∀ p k, p < c.partitions.length -> k < zat c p -> zvX c (Rg c p k)
 regb : ∀ p k, p < c.partitions.length -> k < zat c p -> zf1 c p k = true
 port : ∀ p k, p < c.partitions.length -> k < zU c p -> 0 <= (Pt c p k).channel /\ (Pt c p k).channel < c.channels.length
 chan : ∀ h, h < c.channels.length -> zb9 (Ch c h) /\ zgi c h c.partitions.length = 1 /\ 1 <= zej c h c.partitions.length /\ zej c h c.partitions.length <= 4
theorem zCa {c : Config} (hf : 1 <= c.frames /\ c.frames <= 1024) {g : Region} (h : ze8 c g = true) (hg : I64 g.frame) : zvX c g := by
 unfold ze8 at h
 unfold I64 at hg
 simp only [Bool.and_eq_true, decide_eq_true_eq] at h
 obtain ⟨⟨⟨⟨⟨h1, h2⟩, h3, h4⟩, h5⟩, h6⟩, h7, h8⟩ := h
 rw [z9 _ (by omega) (by omega)] at h4 h6
 exact ⟨⟨⟨h1, h2⟩, ⟨h3, h4⟩⟩, h5, by omega⟩
theorem zeY {c : Config} (hc : zbu c) (h : zh7 c = true) : zan c := by
 simp only [zh7, Bool.and_eq_true] at h
 obtain ⟨hw, hp, hh, hk⟩ := h
 have hp' := zhb hp
 have hh' := zhb hh
 have hfew := zuZ hw hp'
 have hw' := hw
 simp only [zbr, Bool.and_eq_true, decide_eq_true_eq] at hw'
 have hf : 1 <= c.frames /\ c.frames <= 1024 := hw'.1
 have hpart : ∀ p, p < c.partitions.length -> _ := fun p hp => by
  have := hp' p hp
  simp only [zdx, zl7, Bool.and_eq_true, decide_eq_true_eq] at this
  exact this
 refine ⟨hfew, hf, hw'.2.2.2.1.1, hw'.2.2.2.2, fun p hp => ?_, fun p k hp hk => ?_, fun p k hp hk => ?_, fun p k hp hk => ?_, fun h hh => zER (hh' h hh)⟩
 . exact (hpart p hp).1.1.1.1.2.2.2
 . have := zhb (hpart p hp).1.1.1.2 k hk
   simp only [zf1, Bool.and_eq_true] at this
   exact zCa hf this.1.1 (hc.region p k hp hk).1
 . exact zhb (hpart p hp).1.1.1.2 k hk
 . have h := any_f.1 (by simpa using (hpart p hp).2) k hk
   unfold zfm at h
   have hcl := hw'.2.2.2.2
   rw [z9 _ (by omega) (by omega)] at h
   simp only [Bool.not_eq_false', Bool.and_eq_true, decide_eq_true_eq] at h
   omega
theorem zBz {c : Config} (g : zan c) {p : Nat} (hp : p < c.partitions.length) : zxz (P c p) c.channels.length = some true := by
 have hn := (g.nregs p hp).2
 have hq := g.few.ports p hp
 unfold zat at hn
 unfold zU at hq
 have h0 := zz (n := (P c p).regions.length) (f := fun i (_ : Unit) => zud (P c p) c.channels.length (.l0 (i : Int))) (S := fun _ => ()) (fun i hi => by
  have hr := g.regs p i hp hi
  obtain ⟨a1, a2⟩ := hr.ok.page
  obtain ⟨a3, a4⟩ := hr.ok.pages
  unfold Rg at a1 a2 a3 a4
  rw [zit]
  simp only [zfG, zW, zQ hi, zm hi, cnT]
  have ew : i64.wrap (256 - (zh (P c p).regions i).page) = 256 - (zh (P c p).regions i).page := z9 _ (by omega) (by omega)
  rw [decide_eq_false (by omega), decide_eq_false (by omega), decide_eq_false (by omega), decide_eq_false (by rw [ew]; omega), zi i (by omega)]
  rfl)
 have h4 := zz (n := (P c p).ports.length) (f := fun i (_ : Unit) => zud (P c p) c.channels.length (.l4 (i : Int))) (S := fun _ => ()) (fun i hi => by
  obtain ⟨a1, a2⟩ := g.port p i hp hi
  unfold Pt at a1 a2
  rw [zit]
  simp only [zfG, zW, zQ hi, zm hi, cnT]
  rw [decide_eq_false (by omega), decide_eq_false (by omega), zi i (by omega)]
  rfl)
 unfold zxz zoz
 rw [decide_eq_false (by omega), decide_eq_false (by omega), cnF, cnF]
 refine Eq.trans h0 ?_
 rw [zit]
 simp only [zfG, zR (Nat.le_refl _), cnF]
 refine Eq.trans h4 ?_
 rw [zit]
 simp only [zfG, zR (Nat.le_refl _), cnF, id]
theorem zAQ {c : Config} (g : zan c) {p : Nat} (hp : p < c.partitions.length) : zqC c (P c p) = some true := by
 have hn := (g.nregs p hp).2
 have hq := g.few.ports p hp
 unfold zat at hn
 unfold zU at hq
 have h0 := zz (n := (P c p).regions.length) (f := fun i (_ : Unit) => zmI c (P c p) (.l0 (i : Int))) (S := fun _ => ()) (fun i hi => by
  have hr := g.regs p i hp hi
  obtain ⟨a1, a2⟩ := hr.ok.page
  obtain ⟨a3, a4⟩ := hr.ok.pages
  unfold Rg at a1 a2 a3 a4
  rw [zgz]
  simp only [zdk, zW, zQ hi, zm hi, cnT]
  have ew : i64.wrap (256 - (zh (P c p).regions i).page) = 256 - (zh (P c p).regions i).page := z9 _ (by omega) (by omega)
  rw [decide_eq_false (by omega), decide_eq_false (by omega), decide_eq_false (by omega), decide_eq_false (by rw [ew]; omega), zi i (by omega)]
  rfl)
 have h4 := zz (n := (P c p).ports.length) (f := fun i (_ : Unit) => zmI c (P c p) (.l4 (i : Int))) (S := fun _ => ()) (fun i hi => by
  obtain ⟨a1, a2⟩ := g.port p i hp hi
  unfold Pt at a1 a2
  rw [zgz]
  simp only [zdk, zW, zQ hi, zm hi, cnT]
  rw [decide_eq_false (by omega), decide_eq_false (by omega), zi i (by omega)]
  rfl)
 unfold zqC ziQ
 rw [decide_eq_false (by omega), decide_eq_false (by omega), cnF, cnF]
 refine Eq.trans h0 ?_
 rw [zgz]
 simp only [zdk, zR (Nat.le_refl _), cnF]
 refine Eq.trans h4 ?_
 rw [zgz]
 simp only [zdk, zR (Nat.le_refl _), cnF, id]
theorem zQx {c : Config} (g : zan c) (hk : 0 <= c.kernel /\ c.kernel < 1024) : zxl c = some true := by
 have hn := g.few.parts
 have hq := g.chans
 have h0 := zz (n := c.partitions.length) (f := fun i (_ : Unit) => zua c (.l0 (i : Int))) (S := fun _ => ()) (fun i hi => by
  obtain ⟨k1, k2⟩ := zw (zAQ g hi)
  have k1' : zwB c (za c.partitions i) = true := k1
  have k2' : zrc c (za c.partitions i) = true := k2
  rw [zir]
  simp only [zfE, zW, zQ hi, zm hi, cnT, k1', k2', zi i (by omega)]
  rfl)
 have h4 := zz (n := c.channels.length) (f := fun i (_ : Unit) => zua c (.l4 (i : Int))) (S := fun _ => ()) (fun i hi => by
  obtain ⟨o, a1, a2, a3⟩ := g.chan i hi
  obtain ⟨k1, k2⟩ := zw (zwh g.few (i : Int))
  have k1' : ztT c (i : Int) = _ := k1
  have k2' : zpI c (i : Int) = true := k2
  have hs := zj2 o
  have e1 := zrx o
  unfold Ch at e1
  have l1 := zux c (i : Int)
  have l2 := zsn c (i : Int)
  have f1 : ((stg (zn c.channels i) : Int) == 0) = false := by have : stg (zn c.channels i) = stg (Ch c i) := rfl; simp; omega
  have f2 : ((((zvL c (i : Int)).length : Nat) : Int) == 1) = true := by rw [l1, a1]; rfl
  rw [zir]
  simp only [zfE, zW, zQ hi, zm hi, cnT, k1', k2', e1, f1, f2, cnF, Bool.not_true]
  rw [decide_eq_false (by rw [l2]; omega), decide_eq_false (by rw [l2]; omega), zi i (by omega)]
  have ok := o.kind
  have od := o.depth.2
  unfold Ch at ok od
  cases hkk : ((zn c.channels i).kind == 1) with
  | false => rfl
  | true =>
   rw [od (by simpa using hkk)]; rfl)
 unfold zxl zov
 rw [decide_eq_false (by omega), decide_eq_false (by omega), decide_eq_false (by omega), decide_eq_false (by omega), cnF, cnF, cnF, cnF]
 refine Eq.trans h0 ?_
 rw [zir]
 simp only [zfE, zR (Nat.le_refl _), cnF]
 refine Eq.trans h4 ?_
 rw [zir]
 simp only [zfE, zR (Nat.le_refl _), cnF, id]
noncomputable def zp6 (x : Partition) (h : Int) (s : Bool) (k : Nat) : Bool := ((zaQ x.ports k).channel == h) && ((zaQ x.ports k).source == s)
theorem zsp {x : Partition} (hx : x.ports.length <= 8) (h : Int) (s : Bool) : zCA x h s = some (cnt (zp6 x h s) x.ports.length : Int) := by
 have h0 := zz (n := x.ports.length) (f := fun i (n : Nat) => zmO x h s (.l0 (n : Int) (i : Int))) (S := fun i => cnt (zp6 x h s) i) (fun i hi => by
  have hl := zaF (zp6 x h s) i
  have e15 : ∀ n : Int, zmO x h s (.l15 n (i : Int)) = zmO x h s (.l0 n ((i + 1 : Nat) : Int)) := fun n => by
   rw [zmP]
   simp only [zgQ, zi i (by omega)]
  rw [zmP]
  simp only [zgQ, zW, zQ hi, zm hi, cnT, zi (cnt (zp6 x h s) i) (by omega), e15]
  rw [zbc]
  unfold zp6
  cases (zaQ x.ports i).channel == h <;> cases (zaQ x.ports i).source == s <;> rfl)
 refine Eq.trans (show _ = zmO x h s (.l0 0 0) from rfl) (Eq.trans h0 ?_)
 rw [zmP]
 simp only [zgQ, zR (Nat.le_refl _), cnF, id]
theorem zA6 (c : Config) (h : Int) (p : Nat) : zp6 (P c p) h true = zbl c h p := by
 funext k; unfold zp6 zbl Pt; cases (zaQ (P c p).ports k).source <;> rfl
theorem zA5 (c : Config) (h : Int) (p : Nat) : zp6 (P c p) h false = zau c h p := by
 funext k; unfold zp6 zau Pt; cases (zaQ (P c p).ports k).source <;> rfl
theorem zBA {c : Config} (g : zan c) (hk : 0 <= c.kernel /\ c.kernel < 1024) : zxc c = some true := by
 have hn := g.few.parts
 have hq := g.chans
 have h0 := zz (n := c.partitions.length) (f := fun i (_ : Unit) => zkz c (.l0 (i : Int))) (S := fun _ => ()) (fun i hi => by
  obtain ⟨k1, k2⟩ := zw (zBz g hi)
  have k1' : zHe (za c.partitions i) c.channels.length = true := k1
  have k2' : zx8 (za c.partitions i) c.channels.length = true := k2
  rw [zew]
  simp only [zee, zW, zQ hi, zm hi, cnT, k1', k2', zi i (by omega)]
  rfl)
 have h8 : ∀ i, i < c.channels.length -> ∀ (y z : Bool) (u : Int) (v : Bool) (d1 d2 d3 : Int), zkz c (.l8 (i : Int) 0 0 (i : Int) u v y z 0 d1 d2 d3) = zkz c (.l4 ((i + 1 : Nat) : Int)) := fun i hi y z u v d1 d2 d3 => by
  obtain ⟨o, a1, a2, a3⟩ := g.chan i hi
  have h := zz (n := c.partitions.length) (f := fun p (n : Nat × Nat) => zkz c (.l8 (i : Int) (n.1 : Int) (n.2 : Int) (i : Int) u v y z (p : Int) d1 d2 d3)) (S := fun p => (zgi c i p, zej c i p)) (fun p hp => by
   obtain ⟨k1, k2⟩ := zw (zsp (g.few.ports p hp) (i : Int) true)
   obtain ⟨k3, k4⟩ := zw (zsp (g.few.ports p hp) (i : Int) false)
   have k1' : zAa (za c.partitions p) (i : Int) true = _ := k1
   have k2' : zpK (za c.partitions p) (i : Int) true = true := k2
   have k3' : zAa (za c.partitions p) (i : Int) false = _ := k3
   have k4' : zpK (za c.partitions p) (i : Int) false = true := k4
   rw [zA6] at k1'
   rw [zA5] at k3'
   have b1 := zk2 g.few (i : Int) (n := p) (by omega)
   have b2 := zkS g.few (i : Int) (n := p) (by omega)
   have b3 := zaF (zbl c i p) (P c p).ports.length
   have b4 := zaF (zau c i p) (P c p).ports.length
   have b5 := g.few.ports p hp
   unfold zU at b5
   rw [zew]
   simp only [zee, zW, zQ hp, zm hp, cnT, k1', k2', k3', k4', zi p (by omega)]
   rw [zo _ (zgi c i (p + 1)) (by simp only [zgi, tot, zU]; omega) (by simp only [zgi, tot, zU] at b1 ⊢; omega), zo _ (zej c i (p + 1)) (by simp only [zej, tot, zU]; omega) (by simp only [zej, tot, zU] at b2 ⊢; omega)])
  refine Eq.trans h ?_
  rw [zew]
  have f2 : ((zgi c i c.partitions.length : Int) == 1) = true := by rw [a1]; rfl
  simp only [zee, zR (Nat.le_refl _), cnF, f2, Bool.not_true, zi i (by omega)]
  rw [decide_eq_false (by omega), decide_eq_false (by omega)]
  rfl
 have h4 := zz (n := c.channels.length) (f := fun i (_ : Unit) => zkz c (.l4 (i : Int))) (S := fun _ => ()) (fun i hi => by
  obtain ⟨o, a1, a2, a3⟩ := g.chan i hi
  have hs := zqh o
  have e1 := zB1 o
  unfold Ch at e1
  have f1 : ((prt (zn c.channels i) : Int) == 0) = false := by have : prt (zn c.channels i) = prt (Ch c i) := rfl; simp; omega
  have ok := o.kind
  have od := o.depth.2
  unfold Ch at ok od
  rw [zew]
  simp only [zee, zW, zQ hi, zm hi, cnT, e1, f1, cnF, h8 i hi]
  cases hkk : ((zn c.channels i).kind == 1) with
  | false => rfl
  | true =>
   rw [od (by simpa using hkk)]; rfl)
 unfold zxc zom
 rw [decide_eq_false (by omega), decide_eq_false (by omega), decide_eq_false (by omega), decide_eq_false (by omega), cnF, cnF, cnF, cnF]
 refine Eq.trans h0 ?_
 rw [zew]
 simp only [zee, zR (Nat.le_refl _), cnF]
 refine Eq.trans h4 ?_
 rw [zew]
 simp only [zee, zR (Nat.le_refl _), cnF, id]
abbrev Pc := Nat × Nat × Owner
def mkR (x : Pc) : Bulkheadref15Piece := ⟨(x.1 : Int), (x.2.1 : Int), x.2.2⟩
noncomputable def K0 (c : Config) : Nat := c.kernel.toNat
noncomputable def pAt (c : Config) (i : Nat) : Nat := 16 * K0 c + 2 + 24 * i
noncomputable def dl (c : Config) (k : Nat) : List LayoutEnd := zKT c (k : Int)
noncomputable def nP (c : Config) : Nat := c.partitions.length
noncomputable def nC (c : Config) : Nat := c.channels.length
noncomputable def cAt (c : Config) : Nat -> Nat
 | 0 => pAt c (nP c)
 | k + 1 => cAt c k + 2 + stg (Ch c k) + (dl c k).length * prt (Ch c k)
noncomputable def tF (c : Config) : Nat -> Nat
 | 0 => (cAt c (nC c) + 15) / 16
 | i + 1 => tF c i + (1 + z5 (P c i))
def zaz (s : Nat) : Nat -> List LayoutEnd -> List Pc
 | _, [] => []
 | a, e :: l => (a, s, ⟨8, e.partition, e.port⟩) :: zaz s (a + s) l
theorem zfZ (s : Nat) : ∀ (a : Nat) (l : List LayoutEnd) (e : LayoutEnd), zaz s a (l ++ [e]) = zaz s a l ++ [(a + l.length * s, s, ⟨8, e.partition, e.port⟩)]
 | a, [], e => by simp [zaz]
 | a, x :: l, e => by
  rw [List.cons_append, zaz, zaz, zfZ s (a + s) l e, List.length_cons, List.cons_append]
  congr 4
  rw [Nat.add_mul]; omega
theorem zf0 (s : Nat) : ∀ (a : Nat) (l : List LayoutEnd), (zaz s a l).length = l.length
 | _, [] => rfl
 | a, _ :: l => by rw [zaz, List.length_cons, List.length_cons, zf0 s (a + s) l]
noncomputable def zep (c : Config) (i : Nat) : List Pc := [(pAt c i, 2, ⟨3, (i : Int), 0⟩), (pAt c i + 2, 17, ⟨4, (i : Int), 0⟩), (pAt c i + 19, 5, ⟨5, (i : Int), 0⟩)]
noncomputable def zbj (c : Config) : Nat -> List Pc
 | 0 => []
 | i + 1 => zbj c i ++ zep c i
noncomputable def zeh (c : Config) (k : Nat) : List Pc := [(cAt c k, 2, ⟨6, (k : Int), 0⟩), (cAt c k + 2, stg (Ch c k), ⟨7, (k : Int), 0⟩)]
noncomputable def dAt (c : Config) (k : Nat) : Nat := cAt c k + 2 + stg (Ch c k)
noncomputable def zbU (c : Config) : Nat -> List Pc
 | 0 => []
 | k + 1 => (zbU c k ++ zeh c k) ++ zaz (prt (Ch c k)) (dAt c k) (dl c k)
noncomputable def rep (f i : Nat) : Nat -> List Pc
 | 0 => []
 | n + 1 => rep f i n ++ [(16 * (f + n), 16, ⟨9, (i : Int), 0⟩)]
noncomputable def zc1 (c : Config) : Nat -> List Pc
 | 0 => []
 | i + 1 => zc1 c i ++ rep (tF c i) i (1 + z5 (P c i))
noncomputable def bar (c : Config) : List Pc := [(16 * K0 c, 2, ⟨2, 0, 0⟩)]
noncomputable def z4 (c : Config) : List Pc := bar c ++ zbj c (nP c) ++ zbU c (nC c) ++ zc1 c (nP c)
theorem zko (c : Config) : ∀ n, (zbj c n).length = 3 * n
 | 0 => rfl
 | n + 1 => by rw [zbj, List.length_append, zko c n]; simp [zep]; omega
theorem zqk (f i : Nat) : ∀ n, (rep f i n).length = n
 | 0 => rfl
 | n + 1 => by rw [rep, List.length_append, zqk f i n]; rfl
theorem zkU (x : Partition) : z5 x <= 16 := zaF _ _
theorem zpP (c : Config) : ∀ n, (zc1 c n).length <= 17 * n
 | 0 => Nat.le_refl _
 | n + 1 => by rw [zc1, List.length_append, zqk]; have := zpP c n; have := zkU (P c n); omega
theorem zn8 {c : Config} (g : zan c) {k : Nat} (hk : k < nC c) : 1 <= (dl c k).length /\ (dl c k).length <= 4 := by
 obtain ⟨_, _, h1, h2⟩ := g.chan k hk
 rw [dl, zsn]; exact ⟨h1, h2⟩
theorem zle {c : Config} (g : zan c) : ∀ n, n <= nC c -> (zbU c n).length <= 6 * n
 | 0, _ => Nat.le_refl _
 | n + 1, h => by
  rw [zbU, List.length_append, List.length_append, zf0]
  have := zle g n (by omega)
  have := (zn8 g (show n < nC c by omega)).2
  simp [zeh]; omega
theorem zvb {c : Config} (g : zan c) (hk : 0 <= c.kernel /\ c.kernel < 1024) {i : Nat} (hi : i <= nP c) : pAt c i <= 17000 := by
 have := g.few.parts
 unfold nP at hi
 unfold pAt K0; omega
theorem zAP {c : Config} (g : zan c) {k : Nat} (hk : k < nC c) : cAt c k + 7 <= cAt c (k + 1) /\ cAt c (k + 1) <= cAt c k + 700 := by
 obtain ⟨o, _⟩ := g.chan k hk
 have h1 := zj2 o
 have h2 := zqh o
 have h3 := zn8 g hk
 have h4 := Nat.mul_le_mul h3.2 h2.2
 have h5 := Nat.mul_le_mul h3.1 h2.1
 rw [cAt]; omega
theorem zAO {c : Config} (g : zan c) (hk : 0 <= c.kernel /\ c.kernel < 1024) : ∀ n, n <= nC c -> cAt c n <= 17000 + 700 * n
 | 0, _ => by rw [cAt]; exact zvb g hk (Nat.le_refl _)
 | n + 1, h => by
  have := zAO g hk n (by omega)
  have h2 := (zAP g (show n < nC c by omega)).2
  exact Nat.le_trans h2 (Nat.le_trans (Nat.add_le_add_right this 700) (Nat.le_of_eq (by rw [Nat.mul_succ, Nat.add_assoc])))
theorem ziD {c : Config} (g : zan c) (hk : 0 <= c.kernel /\ c.kernel < 1024) {n : Nat} (h : n <= nC c) : cAt c n <= 30000 := by
 have := zAO g hk n h
 have := g.chans
 unfold nC at h; omega
theorem zKf {c : Config} (g : zan c) (hk : 0 <= c.kernel /\ c.kernel < 1024) : ∀ n, tF c n <= 2000 + 17 * n
 | 0 => by rw [tF]; have := ziD g hk (Nat.le_refl (nC c)); omega
 | n + 1 => by rw [tF]; have := zKf g hk n; have := zkU (P c n); omega
theorem zpO {c : Config} (g : zan c) (hk : 0 <= c.kernel /\ c.kernel < 1024) {n : Nat} (h : n <= nP c) : tF c n <= 3000 := by
 have := zKf g hk n
 have := g.few.parts
 unfold nP at h; omega
theorem zco {α : Type} {xs : List α} {b : Nat} (h : xs.length <= 4096) (hb : b <= 100) (y : α) : leB ((xs.length + [y].length) * b) 140737488355328 = true := zaO (by
 exact Nat.le_trans (Nat.mul_le_mul (show xs.length + [y].length <= 4097 by rw [List.length_singleton]; omega) hb) (by decide))
noncomputable def rA (c : Config) (i : Nat) : List Pc := bar c ++ zbj c i
noncomputable def rB (c : Config) (k : Nat) : List Pc := rA c (nP c) ++ zbU c k
noncomputable def rC (c : Config) (i : Nat) : List Pc := rB c (nC c) ++ zc1 c i
theorem zB5 {c : Config} (g : zan c) {i : Nat} (hi : i <= nP c) : (rA c i).length <= 100 := by
 have := g.few.parts
 unfold nP at hi
 rw [rA, List.length_append, zko]; simp [bar]; omega
theorem zvf {c : Config} (g : zan c) {k : Nat} (hk : k <= nC c) : (rB c k).length <= 200 := by
 have := g.chans
 have h1 := zB5 g (Nat.le_refl (nP c))
 have h2 := zle g k hk
 unfold nC at hk
 rw [rB, List.length_append]; omega
theorem zB6 {c : Config} (g : zan c) {k : Nat} (hk : k <= nP c) : (rC c k).length <= 400 := by
 have := g.few.parts
 have h1 := zvf g (Nat.le_refl (nC c))
 have h2 := zpP c k
 unfold nP at hk
 rw [rC, List.length_append]; omega
section
variable {c : Config} (g : zan c) (hk : 0 <= c.kernel /\ c.kernel < 1024)
noncomputable def F0 (c : Config) (i : Nat) : Option (List Bulkheadref15Piece) := zb5 c (.l0 (pAt c i : Int) (i : Int) ((rA c i).map mkR))
noncomputable def F4 (c : Config) (k : Nat) : Option (List Bulkheadref15Piece) := zb5 c (.l4 (cAt c k : Int) (k : Int) ((rB c k).map mkR))
noncomputable def F20 (c : Config) (i : Nat) : Option (List Bulkheadref15Piece) := zb5 c (.l20 (16 * tF c i : Nat) (i : Int) ((rC c i).map mkR))
include g hk
theorem zKg : F0 c 0 = F4 c 0 := by
 have h := zz (n := nP c) (f := fun i (_ : Unit) => F0 c i) (S := fun _ => ()) (fun i hi => by
  have hp := zvb g hk (Nat.le_of_lt hi)
  have hl := zB5 g (Nat.le_of_lt hi)
  have b1 : ∀ y : Bulkheadref15Piece, leB ((((rA c i).map mkR).length + [y].length) * 40) 140737488355328 = true := zco (by rw [List.length_map]; omega) (by omega)
  have b2 : ∀ x y : Bulkheadref15Piece, leB ((((rA c i).map mkR ++ [x]).length + [y].length) * 40) 140737488355328 = true := fun x => zco (by rw [List.length_append, List.length_map]; simp; omega) (by omega)
  have b3 : ∀ w x y : Bulkheadref15Piece, leB (((((rA c i).map mkR ++ [w]) ++ [x]).length + [y].length) * 40) 140737488355328 = true := fun w x => zco (by rw [List.length_append, List.length_append, List.length_map]; simp; omega) (by omega)
  have e1 : i64.wrap ((pAt c i : Int) + 2) = ((pAt c i + 2 : Nat) : Int) := zo _ _ (by omega) (by omega)
  have e2 : i64.wrap (((pAt c i + 2 : Nat) : Int) + 17) = ((pAt c i + 19 : Nat) : Int) := zo _ _ (by omega) (by omega)
  have e3 : i64.wrap ((pAt c i : Int) + 24) = ((pAt c (i + 1) : Nat) : Int) := zo _ _ (by unfold pAt; omega) (by unfold pAt at hp ⊢; omega)
  unfold F0
  rw [zaA]
  simp only [zbk, show decide ((i : Int) < (c.partitions.length : Int)) = true from zQ hi, cnT, b1, b2, b3, e1, e2, e3, zi i (show i < 4611686018427387904 by have := g.few.parts; unfold nP at hi; omega)]
  have : (rA c (i + 1)).map mkR = (((rA c i).map mkR ++ [⟨(pAt c i : Int), 2, ⟨3, (i : Int), 0⟩⟩]) ++ [⟨((pAt c i + 2 : Nat) : Int), 17, ⟨4, (i : Int), 0⟩⟩]) ++ [⟨((pAt c i + 19 : Nat) : Int), 5, ⟨5, (i : Int), 0⟩⟩] := by
   rw [show rA c (i + 1) = rA c i ++ zep c i by unfold rA; rw [zbj, List.append_assoc]]
   rw [List.map_append, List.append_assoc, List.append_assoc]; rfl
  rw [this])
 refine Eq.trans h ?_
 unfold F0
 rw [zaA]
 have hf : decide ((nP c : Int) < (c.partitions.length : Int)) = false := zR (Nat.le_refl _)
 simp only [zbk, hf, cnF]
 unfold F4
 rw [show rB c 0 = rA c (nP c) by unfold rB; rw [zbU, List.append_nil]]
 rfl
noncomputable def F8 (c : Config) (k q : Nat) : Option (List Bulkheadref15Piece) := zb5 c (.l8 ((dAt c k + (zek c (zau c (k : Int)) q).length * prt (Ch c k) : Nat) : Int) (k : Int) (k : Int) (q : Int) ((rB c k ++ zeh c k ++ zaz (prt (Ch c k)) (dAt c k) (zek c (zau c (k : Int)) q)).map mkR) (Ch c k).kind (Ch c k).words (Ch c k).depth)
noncomputable def F12 (c : Config) (k q i : Nat) (l : List LayoutEnd) : Option (List Bulkheadref15Piece) := zb5 c (.l12 ((dAt c k + l.length * prt (Ch c k) : Nat) : Int) (k : Int) (q : Int) (k : Int) (q : Int) (zU c q) (i : Int) ((rB c k ++ zeh c k ++ zaz (prt (Ch c k)) (dAt c k) l).map mkR) (Ch c k).kind (Ch c k).words (Ch c k).depth)
theorem zAn {k q i : Nat} (hkk : k < nC c) (hq : q < nP c) (hi : i < zU c q) {l : List LayoutEnd} (hl : l.length <= 64) : F12 c k q i l = F12 c k q (i + 1) (l ++ cond (zau c (k : Int) q i) [⟨(q : Int), (i : Int)⟩] []) := by
 obtain ⟨o, _⟩ := g.chan k hkk
 have hpt := zB1 o
 have hpl := zqh o
 have hst := zj2 o
 have hca := ziD g hk (Nat.le_of_lt hkk)
 have hrl := zvf g (Nat.le_of_lt hkk)
 have hn := g.few.ports q hq
 have hml := Nat.mul_le_mul hl hpl.2
 have hd : dAt c k <= 40000 := by unfold dAt; omega
 have b1 : ∀ y : Bulkheadref15Piece, leB ((((rB c k ++ zeh c k ++ zaz (prt (Ch c k)) (dAt c k) l).map mkR).length + [y].length) * 40) 140737488355328 = true := zco (by rw [List.length_map, List.length_append, List.length_append, zf0]; simp [zeh]; omega) (by omega)
 have e61 : ∀ (a : Int) (xs : List Bulkheadref15Piece), zb5 c (.l61 a (k : Int) (q : Int) (k : Int) (q : Int) (zU c q) (i : Int) xs (Ch c k).kind (Ch c k).words (Ch c k).depth) = zb5 c (.l12 a (k : Int) (q : Int) (k : Int) (q : Int) (zU c q) ((i + 1 : Nat) : Int) xs (Ch c k).kind (Ch c k).words (Ch c k).depth) := fun a xs => by
  rw [zaA]
  simp only [zbk, zi i (by omega)]
 have e1 : i64.wrap (((dAt c k + l.length * prt (Ch c k) : Nat) : Int) + (prt (Ch c k) : Int)) = ((dAt c k + (l.length + 1) * prt (Ch c k) : Nat) : Int) := zo _ _ (by rw [Nat.add_mul]; omega) (by rw [Nat.add_mul]; omega)
 have hi' : i < (za c.partitions q).ports.length := hi
 have hpt' : zvx (⟨(Ch c k).kind, (Ch c k).words, (Ch c k).depth⟩ : Channel) = (prt (Ch c k) : Int) := hpt
 unfold F12
 rw [zaA]
 simp only [zbk, zW, zQ hi, zm hi', zm (show q < c.partitions.length from hq), cnT, b1, hpt', e1, e61]
 unfold zau Pt P
 cases (zaQ (za c.partitions q).ports i).channel == (k : Int) <;> cases (zaQ (za c.partitions q).ports i).source
 . simp only [cnF, Bool.false_and, List.append_nil]
 . simp only [cnF, Bool.false_and, List.append_nil]
 . simp only [cnT, cnF, Bool.true_and, Bool.not_false]
   rw [zfZ, List.length_append, List.length_singleton, ← List.append_assoc, List.map_append (l₂ := [_])]
   rfl
 . simp only [cnT, cnF, Bool.true_and, Bool.not_true, List.append_nil]
theorem zKi : F4 c 0 = zb5 c (.l16 (cAt c (nC c) : Int) ((rB c (nC c)).map mkR)) := by
 have h := zz (n := nC c) (f := fun k (_ : Unit) => F4 c k) (S := fun _ => ()) (fun k hkk => by
  obtain ⟨o, _⟩ := g.chan k hkk
  have hst := zj2 o
  have hsr := zHz o
  have hca := ziD g hk (Nat.le_of_lt hkk)
  have hrl := zvf g (Nat.le_of_lt hkk)
  have b1 : ∀ y : Bulkheadref15Piece, leB ((((rB c k).map mkR).length + [y].length) * 40) 140737488355328 = true := zco (by rw [List.length_map]; omega) (by omega)
  have b2 : ∀ x y : Bulkheadref15Piece, leB ((((rB c k).map mkR ++ [x]).length + [y].length) * 40) 140737488355328 = true := fun x => zco (by rw [List.length_append, List.length_map]; simp; omega) (by omega)
  have e1 : i64.wrap ((cAt c k : Int) + 2) = ((cAt c k + 2 : Nat) : Int) := zo _ _ (by omega) (by omega)
  have e2 : i64.wrap (2 + (stg (Ch c k) : Int)) = ((2 + stg (Ch c k) : Nat) : Int) := zo _ _ (by omega) (by omega)
  have e3 : i64.wrap ((cAt c k : Int) + ((2 + stg (Ch c k) : Nat) : Int)) = ((dAt c k : Nat) : Int) := zo _ _ (by unfold dAt; omega) (by unfold dAt; omega)
  have hsr' : zvy (zn c.channels k) = (stg (Ch c k) : Int) := hsr
  have hk16 := g.chans
  unfold nC at hkk
  have s1 : F4 c k = F8 c k 0 := by
   unfold F4 F8
   rw [zaA]
   simp only [zbk, zW, zQ hkk, zm hkk, cnT, b1, b2, hsr', e1, e2, e3]
   rw [zek, zaz, List.append_nil, List.length_nil, Nat.zero_mul, Nat.add_zero, List.map_append, List.append_assoc]
   rfl
  have s2 := zz (n := nP c) (f := fun q (_ : Unit) => F8 c k q) (S := fun _ => ()) (fun q hq => by
   have hq8 := g.few.parts
   have hq' : q < c.partitions.length := hq
   have dle : ∀ i, i <= zU c q -> (zek c (zau c (k : Int)) q ++ zc0 (zau c (k : Int)) q i).length <= 64 := fun i hi => by
    rw [List.length_append, zda, zel]
    have hm : cnt (zau c (k : Int) q) i <= i := zaF _ _
    have h2 := zny (g := fun p => cnt (zau c (k : Int) p) (zU c p)) (b := 8) (n := q) fun i hi => Nat.le_trans (zaF _ _) (g.few.ports i (by omega))
    have := g.few.ports q hq'
    omega
   have s3 := zz (n := zU c q) (f := fun i (l : List LayoutEnd) => F12 c k q i l) (S := fun i => zek c (zau c (k : Int)) q ++ zc0 (zau c (k : Int)) q i) (fun i hi => by
    rw [zAn g hk hkk hq hi (dle i (Nat.le_of_lt hi)), zeT, List.append_assoc])
   have s4 : F8 c k q = F12 c k q 0 (zek c (zau c (k : Int)) q) := by
    unfold F8 F12
    rw [zaA]
    simp only [zbk, zW, zQ hq', zm hq', cnT]
    rfl
   rw [s4]
   rw [show zc0 (zau c (k : Int)) q 0 = [] from rfl, List.append_nil] at s3
   rw [s3]
   unfold F8 F12
   rw [zaA]
   have hf : decide ((zU c q : Int) < (zU c q : Int)) = false := zR (Nat.le_refl _)
   simp only [zbk, hf, cnF, zi q (show q < 4611686018427387904 by omega)]
   rfl)
  rw [s1, s2]
  unfold F8 F4
  rw [zaA]
  have hf : decide ((nP c : Int) < (c.partitions.length : Int)) = false := zR (Nat.le_refl _)
  simp only [zbk, hf, cnF, zi k (show k < 4611686018427387904 by omega)]
  rw [show rB c (k + 1) = rB c k ++ zeh c k ++ zaz (prt (Ch c k)) (dAt c k) (dl c k) by unfold rB; rw [zbU, List.append_assoc, List.append_assoc, List.append_assoc]]
  rfl)
 refine Eq.trans h ?_
 unfold F4
 rw [zaA]
 have hf : decide ((nC c : Int) < (c.channels.length : Int)) = false := zR (Nat.le_refl _)
 simp only [zbk, hf, cnF]
end
theorem zwv (c : Config) (xs : List Bulkheadref15Piece) : ∀ m a : Nat, 16 * ((a + 15) / 16) = a + m -> a + m < 100000 -> zb5 c (.l16 (a : Int) xs) = zb5 c (.l20 ((16 * ((a + 15) / 16) : Nat) : Int) 0 xs)
 | 0, a, h, ha => by
  have hr : a % 16 = 0 := by omega
  rw [h, Nat.add_zero]
  rw [zaA]
  simp only [zbk, zkY, hr]
  rfl
 | m + 1, a, h, ha => by
  have hr : ((((a % 16 : Nat) : Int)) == 0) = false := beq_eq_false_iff_ne.2 (by omega)
  have hd : (a + 1 + 15) / 16 = (a + 15) / 16 := by omega
  have ih := zwv c xs m (a + 1) (by rw [hd]; omega) (by omega)
  rw [hd] at ih
  rw [← ih, zaA]
  simp only [zbk, zkY, hr, Bool.not_false, cnT, zi a (by omega)]
section
variable {c : Config} (g : zan c) (hk : 0 <= c.kernel /\ c.kernel < 1024)
include g hk
theorem zDM : F20 c 0 = some ((z4 c).map mkR) := by
 have h := zz (n := nP c) (f := fun i (_ : Unit) => F20 c i) (S := fun _ => ()) (fun i hi => by
  have hi' : i < c.partitions.length := hi
  have hP := g.few.parts
  have hrl := zB6 g (Nat.le_of_lt hi)
  have htf := zpO g hk (Nat.le_of_lt hi)
  have hnt := zkU (P c i)
  have ht : ∀ t : Int, zun (P c i) t = zun (P c i) t := fun _ => rfl
  have s1 : F20 c i = zb5 c (.l24 (16 * tF c i : Nat) (i : Int) 1 (i : Int) 0 ((rC c i).map mkR)) := by
   unfold F20
   rw [zaA]
   simp only [zbk, zQ hi', cnT]
  have s2 := zz (n := 16) (f := fun t (n : Nat) => zb5 c (.l24 (16 * tF c i : Nat) (i : Int) (n : Int) (i : Int) (t : Int) ((rC c i).map mkR))) (S := fun t => 1 + cnt (zq (P c i)) t) (fun t ht16 => by
   have hl := zaF (zq (P c i)) t
   obtain ⟨k1, k2⟩ := zw (zAh (g.nregs i hi').2 (fun k hkk => (g.regs i k hi' hkk).ok) t)
   have k1' : zHf (za c.partitions i) (t : Int) = zq (P c i) t := k1
   have k2' : zx9 (za c.partitions i) (t : Int) = true := k2
   have e89 : ∀ n : Int, zb5 c (.l89 (16 * tF c i : Nat) (i : Int) n (i : Int) (t : Int) ((rC c i).map mkR)) = zb5 c (.l24 (16 * tF c i : Nat) (i : Int) n (i : Int) ((t + 1 : Nat) : Int) ((rC c i).map mkR)) := fun n => by
    rw [zaA]
    simp only [zbk, zi t (show t < 4611686018427387904 by omega)]
   rw [zaA]
   simp only [zbk, show decide ((t : Int) < 16) = true from decide_eq_true (by omega), zm hi', zW, cnT, k1', k2', e89, zi (1 + cnt (zq (P c i)) t) (show 1 + cnt (zq (P c i)) t < 4611686018427387904 by omega)]
   rw [zbc]
   cases zq (P c i) t <;> rfl)
  have s3 : zb5 c (.l24 (16 * tF c i : Nat) (i : Int) ((1 + z5 (P c i) : Nat) : Int) (i : Int) ((16 : Nat) : Int) ((rC c i).map mkR)) = zb5 c (.l28 (16 * tF c i : Nat) (i : Int) (i : Int) ((1 + z5 (P c i) : Nat) : Int) 0 ((rC c i).map mkR)) := by
   rw [zaA]
   simp only [zbk, show decide (((16 : Nat) : Int) < 16) = false from rfl, cnF]
  have s4 := zz (n := 1 + z5 (P c i)) (f := fun j (_ : Unit) => zb5 c (.l28 (16 * (tF c i + j) : Nat) (i : Int) (i : Int) ((1 + z5 (P c i) : Nat) : Int) (j : Int) ((rC c i ++ rep (tF c i) i j).map mkR))) (S := fun _ => ()) (fun j hj => by
   have b1 : ∀ y : Bulkheadref15Piece, leB ((((rC c i ++ rep (tF c i) i j).map mkR).length + [y].length) * 40) 140737488355328 = true := zco (by rw [List.length_map, List.length_append, zqk]; omega) (by omega)
   have e1 : i64.wrap (((16 * (tF c i + j) : Nat) : Int) + 16) = ((16 * (tF c i + (j + 1)) : Nat) : Int) := zo _ _ (by omega) (by omega)
   rw [zaA]
   simp only [zbk, zQ hj, cnT, b1, e1, zi j (show j < 4611686018427387904 by omega)]
   rw [rep, ← List.append_assoc, List.map_append (l₂ := [_])]
   rfl)
  rw [s1]
  refine Eq.trans s2 (Eq.trans s3 (Eq.trans (Eq.trans ?_ s4) ?_))
  . rw [rep, List.append_nil]; rfl
  . rw [zaA]
    simp only [zbk, zR (Nat.le_refl _), cnF, zi i (show i < 4611686018427387904 by omega)]
    unfold F20
    rw [show rC c (i + 1) = rC c i ++ rep (tF c i) i (1 + z5 (P c i)) by unfold rC; rw [zc1, List.append_assoc], tF])
 refine Eq.trans h ?_
 unfold F20
 rw [zaA]
 have hf : decide ((nP c : Int) < (c.partitions.length : Int)) = false := zR (Nat.le_refl _)
 simp only [zbk, hf, cnF, id]
 rfl
theorem zcg : zxd c = some ((z4 c).map mkR) := by
 have hP := g.few.parts
 have e0 : i64.wrap (16 * c.kernel) = ((16 * K0 c : Nat) : Int) := zo _ _ (by unfold K0; omega) (by unfold K0; omega)
 have e1 : i64.wrap (((16 * K0 c : Nat) : Int) + 2) = ((pAt c 0 : Nat) : Int) := zo _ _ (by unfold pAt; omega) (by unfold pAt K0; omega)
 have hc := ziD g hk (Nat.le_refl (nC c))
 unfold zxd zon
 rw [e0, e1, zco (by simp) (by omega), cnT]
 refine Eq.trans (show _ = F0 c 0 from ?_) ?_
 . unfold F0
   rw [show rA c 0 = bar c by unfold rA; rw [zbj, List.append_nil]]
   rfl
 . rw [zKg g hk, zKi g hk, zwv c _ (16 * ((cAt c (nC c) + 15) / 16) - cAt c (nC c)) (cAt c (nC c)) (by omega) (by omega)]
   rw [← zDM g hk]
   unfold F20
   rw [show rC c 0 = rB c (nC c) by unfold rC; rw [zc1, List.append_nil], tF]
   rfl
end
def zao (s : Nat) : Nat -> List LayoutEnd -> List DestPlace
 | _, [] => []
 | a, e :: l => ⟨e.partition, e.port, (a : Int)⟩ :: zao s (a + s) l
theorem zfL (s : Nat) : ∀ (a : Nat) (l : List LayoutEnd) (e : LayoutEnd), zao s a (l ++ [e]) = zao s a l ++ [⟨e.partition, e.port, ((a + l.length * s : Nat) : Int)⟩]
 | a, [], e => by simp [zao]
 | a, x :: l, e => by
  rw [List.cons_append, zao, zao, zfL s (a + s) l e, List.length_cons, List.cons_append]
  rw [show a + s + l.length * s = a + (l.length + 1) * s by rw [Nat.add_mul]; omega]
theorem zdQ (s : Nat) : ∀ (a : Nat) (l : List LayoutEnd), (zao s a l).length = l.length
 | _, [] => rfl
 | a, _ :: l => by rw [zao, List.length_cons, List.length_cons, zdQ s (a + s) l]
noncomputable def base (c : Config) (i : Nat) : PartitionPlace := ⟨(pAt c i : Int), ((pAt c i + 2 : Nat) : Int), ((pAt c i + 19 : Nat) : Int), 0, []⟩
def tabs (f j : Nat) : List Int := (List.range j).map fun t : Nat => ((f + 1 + t : Nat) : Int)
noncomputable def full (c : Config) (i : Nat) : PartitionPlace := ⟨(pAt c i : Int), ((pAt c i + 2 : Nat) : Int), ((pAt c i + 19 : Nat) : Int), (tF c i : Int), tabs (tF c i) (z5 (P c i))⟩
noncomputable def zuw (c : Config) (k : Nat) : LayoutEnd := zbf (zvL c (k : Int)) 0
noncomputable def zKP (c : Config) (k : Nat) : ChannelPlace := ⟨(cAt c k : Int), ((cAt c k + 2 : Nat) : Int), (zuw c k).partition, (zuw c k).port, zao (prt (Ch c k)) (dAt c k) (dl c k)⟩
noncomputable def plA (c : Config) (n : Nat) : List PartitionPlace := (List.range n).map (base c)
noncomputable def plT (c : Config) (i : Nat) : List PartitionPlace := (List.range (nP c)).map fun q => if q < i then full c q else base c q
noncomputable def chL (c : Config) (n : Nat) : List ChannelPlace := (List.range n).map (zKP c)
noncomputable def lay (c : Config) : Layout := ⟨((16 * K0 c : Nat) : Int), plT c (nP c), chL c (nC c), (tF c (nP c) : Int)⟩
theorem zfX (n h : Int) : zbh n h = (h, i64.wrap (h + n)) := rfl
theorem zry (n : Int) : zkN n = n := rfl
theorem zgw (c : Config) (i : Nat) : (plT c i).length = nP c := by simp [plT]
theorem zKN {xs : List PartitionPlace} {i : Nat} {y : PartitionPlace} (h : i < xs.length) : zb (List.set xs i y) i = y := by
 simp [zb, List.getD, List.getElem?_set, h]
theorem zjw {c : Config} {i j : Nat} (hj : j < nP c) : zb (plT c i) j = if j < i then full c j else base c j := by
 simp [zb, List.getD, plT, hj]
theorem zGv {c : Config} {i : Nat} (hi : i < nP c) : List.set (plT c i) i (full c i) = plT c (i + 1) := by
 apply List.ext_getElem
 . simp [plT]
 . intro j h1 h2
   simp only [plT, List.getElem_set, List.getElem_map, List.getElem_range]
   by_cases hj : i = j
   . subst hj; rw [if_pos rfl, if_pos (by omega)]
   . rw [if_neg hj]
     by_cases h3 : j < i
     . rw [if_pos h3, if_pos (by omega)]
     . rw [if_neg h3, if_neg (by omega)]
section
variable {c : Config} (g : zan c) (hk : 0 <= c.kernel /\ c.kernel < 1024)
include g hk
theorem zKk : zb4 c (.l0 0 (pAt c 0 : Int) []) = zb4 c (.l4 0 (cAt c 0 : Int) (plA c (nP c)) []) := by
 have h := zz (n := nP c) (f := fun i (_ : Unit) => zb4 c (.l0 (i : Int) (pAt c i : Int) (plA c i))) (S := fun _ => ()) (fun i hi => by
  have hi' : i < c.partitions.length := hi
  have hP := g.few.parts
  have hp := zvb g hk (Nat.le_of_lt hi)
  have b1 : ∀ y : PartitionPlace, leB (((plA c i).length + [y].length) * 56) 140737488355328 = true := zco (by simp [plA]; omega) (by omega)
  have e1 : i64.wrap ((pAt c i : Int) + 2) = ((pAt c i + 2 : Nat) : Int) := zo _ _ (by omega) (by omega)
  have e2 : i64.wrap (((pAt c i + 2 : Nat) : Int) + 17) = ((pAt c i + 19 : Nat) : Int) := zo _ _ (by omega) (by omega)
  have e3 : i64.wrap (((pAt c i + 19 : Nat) : Int) + 5) = ((pAt c (i + 1) : Nat) : Int) := zo _ _ (by unfold pAt; omega) (by unfold pAt at hp ⊢; omega)
  rw [zbN]
  simp only [zcL, zQ hi', cnT, zfX, e1, e2, e3, b1, zi i (show i < 4611686018427387904 by omega)]
  rw [show plA c (i + 1) = plA c i ++ [base c i] from zaR _ _]
  rfl)
 refine Eq.trans h ?_
 rw [zbN]
 have hf : decide ((nP c : Int) < (c.partitions.length : Int)) = false := zR (Nat.le_refl _)
 simp only [zcL, hf, cnF]
 rfl
theorem zDO {k : Nat} (hkk : k < nC c) : zb4 c (.l4 (k : Int) (cAt c k : Int) (plA c (nP c)) (chL c k)) = zb4 c (.l4 ((k + 1 : Nat) : Int) (cAt c (k + 1) : Int) (plA c (nP c)) (chL c (k + 1))) := by
 have hkk' : k < c.channels.length := hkk
 have hC := g.chans
 obtain ⟨o, a1, _⟩ := g.chan k hkk'
 have hst := zj2 o
 have hpl := zqh o
 have hca := ziD g hk (Nat.le_of_lt hkk)
 obtain ⟨k1, k2⟩ := zw (zwh g.few (k : Int))
 have k1' : ztT c (k : Int) = (zvL c (k : Int), dl c k) := k1
 have k2' : zpI c (k : Int) = true := k2
 have hs1 : (zvL c (k : Int)).length = 1 := by rw [zux]; exact a1
 have hr : zN 0 (zvL c (k : Int)).length = true := by rw [hs1]; rfl
 have e1 : i64.wrap ((cAt c k : Int) + 2) = ((cAt c k + 2 : Nat) : Int) := zo _ _ (by omega) (by omega)
 have e2 : i64.wrap (((cAt c k + 2 : Nat) : Int) + (stg (Ch c k) : Int)) = ((dAt c k : Nat) : Int) := zo _ _ (by unfold dAt; omega) (by unfold dAt; omega)
 have hsr' : zmF (zn c.channels k) = (stg (Ch c k) : Int) := zrx o
 have hd4 := (zn8 g hkk).2
 have hd : dAt c k <= 40000 := by unfold dAt; omega
 have s1 : zb4 c (.l4 (k : Int) (cAt c k : Int) (plA c (nP c)) (chL c k)) = zb4 c (.l8 (k : Int) (dl c k).length 0 (dAt c k : Int) (plA c (nP c)) (chL c k) (Ch c k).kind (Ch c k).words (Ch c k).depth (cAt c k : Int) ((cAt c k + 2 : Nat) : Int) (zuw c k).partition (zuw c k).port [] (dl c k)) := by
  rw [zbN]
  simp only [zcL, zQ hkk', zm hkk', zW, cnT, zfX, k1', k2', hr, hsr', e1, e2]
  rfl
 have s2 := zz (n := (dl c k).length) (f := fun j (_ : Unit) => zb4 c (.l8 (k : Int) (dl c k).length (j : Int) ((dAt c k + j * prt (Ch c k) : Nat) : Int) (plA c (nP c)) (chL c k) (Ch c k).kind (Ch c k).words (Ch c k).depth (cAt c k : Int) ((cAt c k + 2 : Nat) : Int) (zuw c k).partition (zuw c k).port (zao (prt (Ch c k)) (dAt c k) ((dl c k).take j)) (dl c k))) (S := fun _ => ()) (fun j hj => by
  have b1 : ∀ y : DestPlace, leB (((zao (prt (Ch c k)) (dAt c k) ((dl c k).take j)).length + [y].length) * 24) 140737488355328 = true := zco (by rw [zdQ, List.length_take]; omega) (by omega)
  have hm := Nat.mul_le_mul (show j <= 4 by omega) hpl.2
  have e3 : i64.wrap (((dAt c k + j * prt (Ch c k) : Nat) : Int) + (prt (Ch c k) : Int)) = ((dAt c k + (j + 1) * prt (Ch c k) : Nat) : Int) := zo _ _ (by rw [Nat.add_mul]; omega) (by rw [Nat.add_mul]; omega)
  have hpr' : zvv (⟨(Ch c k).kind, (Ch c k).words, (Ch c k).depth⟩ : Channel) = (prt (Ch c k) : Int) := zOn o
  rw [zbN]
  simp only [zcL, zQ hj, zm hj, zW, cnT, zfX, b1, hpr', e3, zi j (show j < 4611686018427387904 by omega)]
  have ht : (dl c k).take (j + 1) = (dl c k).take j ++ [zbf (dl c k) j] := by
   rw [List.take_add_one]; simp [zbf, List.getD, hj]
  rw [ht, zfL, List.length_take, Nat.min_eq_left (Nat.le_of_lt hj)])
 have s3 : zb4 c (.l8 (k : Int) (dl c k).length ((dl c k).length : Int) ((dAt c k + (dl c k).length * prt (Ch c k) : Nat) : Int) (plA c (nP c)) (chL c k) (Ch c k).kind (Ch c k).words (Ch c k).depth (cAt c k : Int) ((cAt c k + 2 : Nat) : Int) (zuw c k).partition (zuw c k).port (zao (prt (Ch c k)) (dAt c k) (dl c k)) (dl c k)) = zb4 c (.l4 ((k + 1 : Nat) : Int) (cAt c (k + 1) : Int) (plA c (nP c)) (chL c (k + 1))) := by
  have b1 : ∀ y : ChannelPlace, leB (((chL c k).length + [y].length) * 56) 140737488355328 = true := zco (by simp [chL]; omega) (by omega)
  rw [zbN]
  simp only [zcL, zR (Nat.le_refl _), cnF, b1, cnT, zi k (show k < 4611686018427387904 by omega)]
  rw [show chL c (k + 1) = chL c k ++ [zKP c k] from zaR _ _]
  rfl
 rw [List.take_length] at s2
 exact s1.trans ((show _ = _ from by rw [Nat.zero_mul, Nat.add_zero, List.take_zero] at s2; exact s2).trans s3)
theorem zAo {i : Nat} (hi : i < nP c) : zb4 c (.l12 (i : Int) (plT c i) (chL c (nC c)) (tF c i : Int)) = zb4 c (.l12 ((i + 1 : Nat) : Int) (plT c (i + 1)) (chL c (nC c)) (tF c (i + 1) : Int)) := by
 have hi' : i < c.partitions.length := hi
 have hP := g.few.parts
 have htf := zpO g hk (Nat.le_of_lt hi)
 have hnt := zkU (P c i)
 obtain ⟨k1, k2⟩ := zw (zCT (g.nregs i hi').2 (fun k hkk => (g.regs i k hi' hkk).ok))
 have k1' : zHc (za c.partitions i) = (z5 (P c i) : Int) := k1
 have k2' : zx0 (za c.partitions i) = true := k2
 have hl : i < (plT c i).length := by rw [zgw]; exact hi
 have hb : zb (plT c i) i = base c i := by rw [zjw hi, if_neg (Nat.lt_irrefl _)]
 have s1 : zb4 c (.l12 (i : Int) (plT c i) (chL c (nC c)) (tF c i : Int)) = zb4 c (.l16 (i : Int) (i : Int) (z5 (P c i) : Int) 0 (List.set (plT c i) i ⟨(pAt c i : Int), ((pAt c i + 2 : Nat) : Int), ((pAt c i + 19 : Nat) : Int), (tF c i : Int), tabs (tF c i) 0⟩) (chL c (nC c)) ((tF c i + 1 : Nat) : Int)) := by
  have e1 : i64.wrap ((tF c i : Int) + 1) = ((tF c i + 1 : Nat) : Int) := zo _ _ (by omega) (by omega)
  rw [zbN]
  simp only [zcL, zQ hi', zm hi', zm hl, zW, cnT, zfX, k1', k2', hb, e1]
  rfl
 have s2 := zz (n := z5 (P c i)) (f := fun j (_ : Unit) => zb4 c (.l16 (i : Int) (i : Int) (z5 (P c i) : Int) (j : Int) (List.set (plT c i) i ⟨(pAt c i : Int), ((pAt c i + 2 : Nat) : Int), ((pAt c i + 19 : Nat) : Int), (tF c i : Int), tabs (tF c i) j⟩) (chL c (nC c)) ((tF c i + 1 + j : Nat) : Int))) (S := fun _ => ()) (fun j hj => by
  have hl2 : ∀ y, i < (List.set (plT c i) i y).length := fun y => by rw [List.length_set]; exact hl
  have e1 : i64.wrap (((tF c i + 1 + j : Nat) : Int) + 1) = ((tF c i + 1 + (j + 1) : Nat) : Int) := zo _ _ (by omega) (by omega)
  have b1 : ∀ y : Int, leB (((tabs (tF c i) j).length + [y].length) * 8) 140737488355328 = true := zco (by simp [tabs]; omega) (by omega)
  rw [zbN]
  simp only [zcL, zQ hj, zm (hl2 _), zW, cnT, zfX, zKN hl, b1, e1, List.set_set, Nat.beq_refl, zi j (show j < 4611686018427387904 by omega)]
  rw [show tabs (tF c i) (j + 1) = tabs (tF c i) j ++ [((tF c i + 1 + j : Nat) : Int)] from zaR _ _])
 rw [s1]
 refine Eq.trans s2 ?_
 rw [zbN]
 simp only [zcL, zR (Nat.le_refl _), cnF, zi i (show i < 4611686018427387904 by omega)]
 rw [show (⟨(pAt c i : Int), ((pAt c i + 2 : Nat) : Int), ((pAt c i + 19 : Nat) : Int), (tF c i : Int), tabs (tF c i) (z5 (P c i))⟩ : PartitionPlace) = full c i from rfl, zGv hi, tF, show tF c i + 1 + z5 (P c i) = tF c i + (1 + z5 (P c i)) by omega]
theorem zJL : zw4 c = some (lay c, 0) := by
 obtain ⟨k1, k2⟩ := zw (zQx g hk)
 have k1' : zHb c = true := k1
 have k2' : zxZ c = true := k2
 have hca := ziD g hk (Nat.le_refl (nC c))
 have e0 : i64.wrap (c.kernel * 16) = ((16 * K0 c : Nat) : Int) := zo _ _ (by unfold K0; omega) (by unfold K0; omega)
 have e1 : i64.wrap (((16 * K0 c : Nat) : Int) + 2) = ((pAt c 0 : Nat) : Int) := zo _ _ (by unfold pAt; omega) (by unfold pAt K0; omega)
 have e2 : i64.wrap ((cAt c (nC c) : Int) + 16) = ((cAt c (nC c) + 16 : Nat) : Int) := zo _ _ (by omega) (by omega)
 have e3 : i64.wrap (((cAt c (nC c) + 16 : Nat) : Int) - 1) = ((cAt c (nC c) + 15 : Nat) : Int) := zo _ _ (by omega) (by omega)
 unfold zw4 zog
 rw [k1', k2', cnT, Bool.not_true, cnF, zry, zfX, e0, e1]
 refine Eq.trans (zKk g hk) ?_
 refine Eq.trans (zz (n := nC c) (f := fun k (_ : Unit) => zb4 c (.l4 (k : Int) (cAt c k : Int) (plA c (nP c)) (chL c k))) (S := fun _ => ()) fun k hkk => zDO g hk hkk) ?_
 rw [zbN]
 have hf : decide ((nC c : Int) < (c.channels.length : Int)) = false := zR (Nat.le_refl _)
 simp only [zcL, hf, cnF, zfX, zry, e2, e3, zch _ (show cAt c (nC c) + 15 < 4611686018427387904 by omega)]
 have ep : plA c (nP c) = plT c 0 := by
  unfold plA plT
  apply List.map_congr_left
  intro q _
  rw [if_neg (by omega)]
 rw [ep]
 refine Eq.trans (zz (n := nP c) (f := fun i (_ : Unit) => zb4 c (.l12 (i : Int) (plT c i) (chL c (nC c)) (tF c i : Int))) (S := fun _ => ()) fun i hi => zAo g hk hi) ?_
 rw [zbN]
 have hf : decide ((nP c : Int) < (c.partitions.length : Int)) = false := zR (Nat.le_refl _)
 simp only [zcL, hf, cnF, zfX, zry, e0, id]
 rfl
end
def Laid : Nat -> List Pc -> Nat -> Prop
 | a, [], b => a <= b
 | a, x :: l, b => a <= x.1 /\ Laid (x.1 + x.2.1) l b
theorem Laid.mono {a a' : Nat} {l : List Pc} {b : Nat} (h : Laid a l b) (ha : a' <= a) : Laid a' l b := by
 cases l with
 | nil => exact Nat.le_trans ha h
 | cons x l => exact ⟨Nat.le_trans ha h.1, h.2⟩
theorem Laid.append : ∀ {l l' : List Pc} {a m b : Nat}, Laid a l m -> Laid m l' b -> Laid a (l ++ l') b
 | [], _, _, _, _, h, h' => h'.mono h
 | _ :: _, _, _, _, _, h, h' => ⟨h.1, Laid.append h.2 h'⟩
theorem Laid.in_ : ∀ {l : List Pc} {a b : Nat}, Laid a l b -> ∀ x ∈ l, a <= x.1 /\ x.1 + x.2.1 <= b
 | [], _, _, _, _, hx => by cases hx
 | y :: l, a, b, h, x, hx => by
  have hb : ∀ {l : List Pc} {a b : Nat}, Laid a l b -> a <= b := by
   intro l
   induction l with
   | nil => intro a b h; exact h
   | cons y l ih => intro a b h; have := ih h.2; have := h.1; omega
  rcases List.mem_cons.1 hx with rfl | hx
  . exact ⟨h.1, hb h.2⟩
  . obtain ⟨h1, h2⟩ := Laid.in_ h.2 x hx
    have := h.1
    exact ⟨by omega, h2⟩
def inP (x : Pc) (a : Nat) : Bool := decide (x.1 <= a) && decide (a < x.1 + x.2.1)
theorem inP_iff {x : Pc} {a : Nat} : inP x a = true ↔ x.1 <= a /\ a < x.1 + x.2.1 := by simp [inP]
theorem Laid.one : ∀ {l : List Pc} {a b : Nat}, Laid a l b -> ∀ {x y : Pc} {n : Nat}, x ∈ l -> y ∈ l -> inP x n = true -> inP y n = true -> x = y
 | [], _, _, _, _, _, _, hx, _, _, _ => by cases hx
 | z :: l, a, b, h, x, y, n, hx, hy, h1, h2 => by
  have i1 := inP_iff.1 h1
  have i2 := inP_iff.1 h2
  rcases List.mem_cons.1 hx with rfl | hx'
  . rcases List.mem_cons.1 hy with rfl | hy'
    . rfl
    . have := (h.2.in_ y hy').1; omega
  . rcases List.mem_cons.1 hy with rfl | hy'
    . have := (h.2.in_ x hx').1; omega
    . exact Laid.one h.2 hx' hy' h1 h2
theorem zmd (s : Nat) : ∀ (l : List LayoutEnd) (a : Nat), Laid a (zaz s a l) (a + l.length * s)
 | [], a => by simp [zaz, Laid]
 | e :: l, a => by
  refine ⟨Nat.le_refl _, ?_⟩
  have := zmd s l (a + s)
  rw [List.length_cons, Nat.add_mul, Nat.one_mul, show a + (l.length * s + s) = a + s + l.length * s by omega]
  exact this
theorem zmc (c : Config) : ∀ n, Laid (pAt c 0) (zbj c n) (pAt c n)
 | 0 => Nat.le_refl _
 | n + 1 => by
  rw [zbj]
  refine (zmc c n).append ?_
  simp only [zep, Laid, pAt]
  omega
theorem zmb (c : Config) : ∀ n, Laid (cAt c 0) (zbU c n) (cAt c n)
 | 0 => Nat.le_refl _
 | n + 1 => by
  rw [zbU]
  refine ((zmb c n).append (m := cAt c n) (b := dAt c n) ?_).append ?_
  . exact ⟨Nat.le_refl _, Nat.le_refl _, Nat.le_refl _⟩
  . exact zmd _ _ _
theorem ztt (f i : Nat) : ∀ n, Laid (16 * f) (rep f i n) (16 * (f + n))
 | 0 => Nat.le_refl _
 | n + 1 => by
  rw [rep]
  refine (ztt f i n).append ?_
  simp only [Laid]
  omega
theorem zoN (c : Config) : ∀ n, Laid (16 * tF c 0) (zc1 c n) (16 * tF c n)
 | 0 => Nat.le_refl _
 | n + 1 => by
  rw [zc1, tF]
  exact (zoN c n).append (ztt _ _ _)
theorem zts (c : Config) : Laid (16 * K0 c) (z4 c) (16 * tF c (nP c)) := by
 refine (((Laid.append (m := pAt c 0) ?_ (zmc c _)).append (zmb c _)).append ((zoN c _).mono ?_))
 . exact ⟨Nat.le_refl _, Nat.le_refl _⟩
 . show cAt c (nC c) <= 16 * ((cAt c (nC c) + 15) / 16)
   omega
inductive Is (c : Config) : Pc -> Prop
 | bar : Is c (16 * K0 c, 2, ⟨2, 0, 0⟩)
 | lock {i : Nat} (h : i < nP c) : Is c (pAt c i, 2, ⟨3, (i : Int), 0⟩)
 | save {i : Nat} (h : i < nP c) : Is c (pAt c i + 2, 17, ⟨4, (i : Int), 0⟩)
 | state {i : Nat} (h : i < nP c) : Is c (pAt c i + 19, 5, ⟨5, (i : Int), 0⟩)
 | chan {k : Nat} (h : k < nC c) : Is c (cAt c k, 2, ⟨6, (k : Int), 0⟩)
 | stage {k : Nat} (h : k < nC c) : Is c (cAt c k + 2, stg (Ch c k), ⟨7, (k : Int), 0⟩)
 | port {k : Nat} (h : k < nC c) {x : Pc} (hx : x ∈ zaz (prt (Ch c k)) (dAt c k) (dl c k)) : Is c x
 | tab {i : Nat} (h : i < nP c) {x : Pc} (hx : x ∈ rep (tF c i) i (1 + z5 (P c i))) : Is c x
theorem zjv (c : Config) {x : Pc} : ∀ n, x ∈ zbj c n ↔ ∃ i, i < n /\ x ∈ zep c i
 | 0 => by simp [zbj]
 | n + 1 => by
  rw [zbj, List.mem_append, zjv c n]
  constructor
  . rintro (⟨i, hi, h⟩ | h)
    . exact ⟨i, by omega, h⟩
    . exact ⟨n, by omega, h⟩
  . rintro ⟨i, hi, h⟩
    by_cases hin : i = n
    . subst hin; exact .inr h
    . exact .inl ⟨i, by omega, h⟩
theorem ziF (c : Config) {x : Pc} : ∀ n, x ∈ zbU c n ↔ ∃ k, k < n /\ (x ∈ zeh c k ∨ x ∈ zaz (prt (Ch c k)) (dAt c k) (dl c k))
 | 0 => by simp [zbU]
 | n + 1 => by
  rw [zbU, List.mem_append, List.mem_append, ziF c n]
  constructor
  . rintro ((⟨i, hi, h⟩ | h) | h)
    . exact ⟨i, by omega, h⟩
    . exact ⟨n, by omega, .inl h⟩
    . exact ⟨n, by omega, .inr h⟩
  . rintro ⟨i, hi, h⟩
    by_cases hin : i = n
    . subst hin
      rcases h with h | h
      . exact .inl (.inr h)
      . exact .inr h
    . exact .inl (.inl ⟨i, by omega, h⟩)
theorem znw (c : Config) {x : Pc} : ∀ n, x ∈ zc1 c n ↔ ∃ i, i < n /\ x ∈ rep (tF c i) i (1 + z5 (P c i))
 | 0 => by simp [zc1]
 | n + 1 => by
  rw [zc1, List.mem_append, znw c n]
  constructor
  . rintro (⟨i, hi, h⟩ | h)
    . exact ⟨i, by omega, h⟩
    . exact ⟨n, by omega, h⟩
  . rintro ⟨i, hi, h⟩
    by_cases hin : i = n
    . subst hin; exact .inr h
    . exact .inl ⟨i, by omega, h⟩
theorem ref_mem {c : Config} {x : Pc} : x ∈ z4 c ↔ Is c x := by
 unfold z4
 rw [List.mem_append, List.mem_append, List.mem_append, zjv, ziF, znw]
 constructor
 . rintro (((h | ⟨i, hi, h⟩) | ⟨k, hk, h | h⟩) | ⟨i, hi, h⟩)
   . rw [bar, List.mem_singleton] at h; subst h; exact .bar
   . simp only [zep, List.mem_cons, List.not_mem_nil, or_false] at h
     rcases h with rfl | rfl | rfl
     . exact .lock hi
     . exact .save hi
     . exact .state hi
   . simp only [zeh, List.mem_cons, List.not_mem_nil, or_false] at h
     rcases h with rfl | rfl
     . exact .chan hk
     . exact .stage hk
   . exact .port hk h
   . exact .tab hi h
 . intro h
   cases h with
   | bar => exact .inl (.inl (.inl (by simp [bar])))
   | lock h => exact .inl (.inl (.inr ⟨_, h, by simp [zep]⟩))
   | save h => exact .inl (.inl (.inr ⟨_, h, by simp [zep]⟩))
   | state h => exact .inl (.inl (.inr ⟨_, h, by simp [zep]⟩))
   | chan h => exact .inl (.inr ⟨_, h, .inl (by simp [zeh])⟩)
   | stage h => exact .inl (.inr ⟨_, h, .inl (by simp [zeh])⟩)
   | port h hx => exact .inl (.inr ⟨_, h, .inr hx⟩)
   | tab h hx => exact .inr ⟨_, h, hx⟩
theorem rep_mem {f i : Nat} {x : Pc} : ∀ {n}, x ∈ rep f i n ↔ ∃ j, j < n /\ x = (16 * (f + j), 16, ⟨9, (i : Int), 0⟩)
 | 0 => by simp [rep]
 | n + 1 => by
  rw [rep, List.mem_append, rep_mem, List.mem_singleton]
  constructor
  . rintro (⟨j, hj, h⟩ | h)
    . exact ⟨j, by omega, h⟩
    . exact ⟨n, by omega, h⟩
  . rintro ⟨j, hj, h⟩
    by_cases hjn : j = n
    . subst hjn; exact .inr h
    . exact .inl ⟨j, by omega, h⟩
theorem zjx {s : Nat} {x : Pc} : ∀ {l : List LayoutEnd} {a : Nat}, x ∈ zaz s a l -> x.2.1 = s /\ ∃ e ∈ l, x.2.2 = ⟨8, e.partition, e.port⟩
 | [], a, h => by cases h
 | e :: l, a, h => by
  rw [zaz] at h
  rcases List.mem_cons.1 h with rfl | h
  . exact ⟨rfl, e, by simp, rfl⟩
  . obtain ⟨h1, e', he, h2⟩ := zjx h
    exact ⟨h1, e', by simp [he], h2⟩
def PcOk (c : Config) (x : Pc) : Prop := x.2.2.kind = 2 ∨ ((x.2.2.kind = 3 ∨ x.2.2.kind = 4 ∨ x.2.2.kind = 5 ∨ x.2.2.kind = 9) /\ ∃ j, j < nP c /\ x.2.2.index = ((j : Nat) : Int)) ∨ ((x.2.2.kind = 6 ∨ x.2.2.kind = 7) /\ ∃ j, j < nC c /\ x.2.2.index = ((j : Nat) : Int)) ∨ (x.2.2.kind = 8 /\ 1 <= nC c)
theorem zwr {c : Config} {x : Pc} (h : Is c x) : PcOk c x := by
 cases h with
 | bar => exact .inl rfl
 | lock h => exact .inr (.inl ⟨.inl rfl, _, h, rfl⟩)
 | save h => exact .inr (.inl ⟨.inr (.inl rfl), _, h, rfl⟩)
 | state h => exact .inr (.inl ⟨.inr (.inr (.inl rfl)), _, h, rfl⟩)
 | chan h => exact .inr (.inr (.inl ⟨.inl rfl, _, h, rfl⟩))
 | stage h => exact .inr (.inr (.inl ⟨.inr rfl, _, h, rfl⟩))
 | port h hx =>
  obtain ⟨_, e, _, h2⟩ := zjx hx
  exact .inr (.inr (.inr ⟨by rw [h2], by omega⟩))
 | tab h hx =>
  obtain ⟨j, hj, rfl⟩ := rep_mem.1 hx
  exact .inr (.inl ⟨.inr (.inr (.inr rfl)), _, h, rfl⟩)
structure Inv (c : Config) (i : Nat) (x0 : Int) (x4 : List PartitionPlace) (x5 : List ChannelPlace) : Prop where
 ch : 0 <= x0 /\ (1 <= nC c -> x0 < nC c)
 l4 : x4.length = nP c
 l5 : x5.length = nC c
 t : ∀ p ∈ x4, p.tables.length <= i
 d : ∀ p ∈ x5, p.dests.length <= i
theorem Inv.up {c : Config} {i : Nat} {x0 : Int} {x4 : List PartitionPlace} {x5 : List ChannelPlace} (h : Inv c i x0 x4 x5) : Inv c (i + 1) x0 x4 x5 :=
 ⟨h.ch, h.l4, h.l5, fun p hp => Nat.le_succ_of_le (h.t p hp), fun p hp => Nat.le_succ_of_le (h.d p hp)⟩
theorem Inv.set4 {c : Config} {i : Nat} {x0 : Int} {x4 : List PartitionPlace} {x5 : List ChannelPlace} (h : Inv c i x0 x4 x5) {j : Nat} {y : PartitionPlace} (hy : y.tables.length <= i + 1) : Inv c (i + 1) x0 (List.set x4 j y) x5 :=
 ⟨h.ch, by rw [List.length_set, h.l4], h.l5, fun p hp => by
  rcases List.mem_or_eq_of_mem_set hp with hp | rfl
  . exact Nat.le_succ_of_le (h.t p hp)
  . exact hy, fun p hp => Nat.le_succ_of_le (h.d p hp)⟩
theorem Inv.set5 {c : Config} {i : Nat} {x0 : Int} {x4 : List PartitionPlace} {x5 : List ChannelPlace} (h : Inv c i x0 x4 x5) {j : Nat} {y : ChannelPlace} (hy : y.dests.length <= i + 1) : Inv c (i + 1) x0 x4 (List.set x5 j y) :=
 ⟨h.ch, h.l4, by rw [List.length_set, h.l5], fun p hp => Nat.le_succ_of_le (h.t p hp), fun p hp => by
  rcases List.mem_or_eq_of_mem_set hp with hp | rfl
  . exact Nat.le_succ_of_le (h.d p hp)
  . exact hy⟩
theorem Inv.setc {c : Config} {i : Nat} {x0 y : Int} {x4 : List PartitionPlace} {x5 : List ChannelPlace} (h : Inv c i x0 x4 x5) (hy : 0 <= y /\ (1 <= nC c -> y < nC c)) : Inv c i y x4 x5 := ⟨hy, h.l4, h.l5, h.t, h.d⟩
theorem zk6 {xs : List PartitionPlace} {i : Nat} (h : i < xs.length) : zb xs i ∈ xs := by
 simp [zb, List.getD, h]
theorem zbJ {xs : List ChannelPlace} {i : Nat} (h : i < xs.length) : ze xs i ∈ xs := by
 simp [ze, List.getD, h]
theorem zk5 {xs : List Pc} {i : Nat} (h : i < xs.length) : za0 (xs.map mkR) i = mkR xs[i] := by
 simp [za0, List.getD, h]
theorem zbi {x : Int} {n : Nat} (h0 : 0 <= x) (h1 : x < n) : zN x n = true := by
 obtain ⟨m, rfl⟩ := Int.eq_ofNat_of_zero_le h0
 exact zm (by omega)
section
variable {c : Config} (g : zan c) (hk : 0 <= c.kernel /\ c.kernel < 1024)
include g hk
theorem zqi {x : Pc} (hx : x ∈ z4 c) : x.1 + x.2.1 <= 48000 := by
 have h1 := ((zts c).in_ x hx).2
 have h2 := zpO g hk (Nat.le_refl (nP c))
 omega
theorem zwp {i : Nat} (hi : i < (z4 c).length) {x0 x1 x3 : Int} {x4 : List PartitionPlace} {x5 : List ChannelPlace} (h : Inv c i x0 x4 x5) (hi4 : i <= 4000) : ∃ x0' x3' x4' x5', Inv c (i + 1) x0' x4' x5' /\ zbL c (.l4 x0 x1 (i : Int) x3 x4 x5) = zbL c (.l4 x0' (((z4 c)[i].1 + (z4 c)[i].2.1 : Nat) : Int) ((i + 1 : Nat) : Int) x3' x4' x5') := by
 obtain ⟨p1, p2⟩ := zw (zcg g hk)
 have p1' : zer c = (z4 c).map mkR := p1
 have hm : (z4 c)[i] ∈ z4 c := List.getElem_mem hi
 have he := zqi g hk hm
 have e81 : ∀ (a b d : Int) x y, zbL c (.l81 a b (i : Int) d x y) = zbL c (.l4 a b ((i + 1 : Nat) : Int) d x y) := fun a b d x y => by
  rw [zaT]
  simp only [zbC, zi i (show i < 4611686018427387904 by omega)]
 have hl : i < ((z4 c).map mkR).length := by rw [List.length_map]; exact hi
 have ew : i64.wrap ((mkR (z4 c)[i]).at_ + (mkR (z4 c)[i]).size) = (((z4 c)[i].1 + (z4 c)[i].2.1 : Nat) : Int) := zo _ _ (by simp only [mkR]; omega) (by omega)
 have hr : ∀ {x : Int} {n : Nat}, 0 <= x -> x < n -> zN x n = true := zbi
 have hok := zwr (ref_mem.1 hm)
 rw [zaT]
 simp only [zbC, p1', zW, zQ hl, zm hl, cnT, zk5 hi, ew, e81, Nat.beq_refl]
 have ho : (mkR (z4 c)[i]).owner = (z4 c)[i].2.2 := rfl
 rw [ho]
 have h4 := h.l4
 have h5 := h.l5
 generalize (z4 c)[i] = x at *
 rcases hok with k | ⟨k, j, hj, ij⟩ | ⟨k, j, hj, ij⟩ | ⟨k, hc⟩
 . rw [k]; refine ⟨_, _, _, _, ?_, rfl⟩; exact h.up
 . have hj4 : j < x4.length := by omega
   have hmem := h.t _ (zk6 hj4)
   rw [ij]
   simp only [zm hj4, zW, cnT]
   rcases k with k | k | k | k
   . rw [k]; refine ⟨_, _, _, _, ?_, rfl⟩; exact h.set4 (Nat.le_succ_of_le hmem)
   . rw [k]; refine ⟨_, _, _, _, ?_, rfl⟩; exact h.set4 (Nat.le_succ_of_le hmem)
   . rw [k]; refine ⟨_, _, _, _, ?_, rfl⟩; exact h.set4 (Nat.le_succ_of_le hmem)
   . rw [k]
     have b1 : ∀ y : Int, leB (((zb x4 j).tables.length + [y].length) * 8) 140737488355328 = true := zco (by omega) (by omega)
     simp only [b1, cnT]
     cases hroot : ((zb x4 j).root == 0) with
     | true => refine ⟨_, _, _, _, ?_, rfl⟩; exact h.set4 (Nat.le_succ_of_le hmem)
     | false => refine ⟨_, _, _, _, ?_, rfl⟩; exact h.set4 (by rw [List.length_append]; exact Nat.succ_le_succ hmem)
 . have hj5 : j < x5.length := by omega
   have hmem := h.d _ (zbJ hj5)
   rw [ij]
   simp only [zm hj5, zW, cnT]
   rcases k with k | k
   . rw [k]; refine ⟨_, _, _, _, ?_, rfl⟩; exact Inv.setc (x0 := x0) (h.set5 (Nat.le_succ_of_le hmem)) ⟨Int.natCast_nonneg _, fun _ => Int.ofNat_lt.2 hj⟩
   . rw [k]; refine ⟨_, _, _, _, ?_, rfl⟩; exact h.set5 (Nat.le_succ_of_le hmem)
 . obtain ⟨c1, c2⟩ := h.ch
   have c2 := c2 hc
   have hmem := h.d _ (zbJ (xs := x5) (i := x0.toNat) (by omega))
   have b1 : ∀ y : DestPlace, leB (((ze x5 x0.toNat).dests.length + [y].length) * 24) 140737488355328 = true := zco (by omega) (by omega)
   rw [k]
   simp only [hr c1 (show x0 < (x5.length : Nat) by omega), b1, cnT]
   refine ⟨_, _, _, _, ?_, rfl⟩; exact h.set5 (by rw [List.length_append]; exact Nat.succ_le_succ hmem)
end
theorem zmx {c : Config} (g : zan c) (h : Int) : ∃ r, zCv c h = some r := by
 have hP := g.few.parts
 have outer : ∀ m q, q + m = nP c -> ∃ r, zt9 c h (.l0 (q : Int)) = some r := by
  intro m
  induction m with
  | zero =>
   intro q hq
   have hf : decide ((q : Int) < (c.partitions.length : Int)) = false := zR (by unfold nP at hq; omega)
   exact ⟨_, by rw [ziq]; simp only [zfD, hf, cnF]; rfl⟩
  | succ m ih =>
   intro q hq
   have hq' : q < c.partitions.length := by unfold nP at hq; omega
   have hn := g.few.ports q hq'
   obtain ⟨r, hr⟩ := ih (q + 1) (by omega)
   have inner : ∀ m i, i + m = zU c q -> ∃ r, zt9 c h (.l4 (q : Int) (q : Int) (zU c q) (i : Int)) = some r := by
    intro m
    induction m with
    | zero =>
     intro i hi
     have hf : decide ((i : Int) < (zU c q : Int)) = false := zR (by omega)
     exact ⟨r, by rw [ziq]; simp only [zfD, hf, cnF, zi q (show q < 4611686018427387904 by omega)]; exact hr⟩
    | succ m ih' =>
     intro i hi
     have hi' : i < (za c.partitions q).ports.length := by have : zU c q = (za c.partitions q).ports.length := rfl; omega
     obtain ⟨r', hr'⟩ := ih' (i + 1) (by omega)
     have ht : decide ((i : Int) < (zU c q : Int)) = true := zQ (by omega)
     rw [ziq]
     simp only [zfD, zW, ht, zm hi', zm hq', cnT, zi i (show i < 4611686018427387904 by omega), hr']
     cases (zaQ (za c.partitions q).ports i).channel == h <;> cases (zaQ (za c.partitions q).ports i).source <;> exact ⟨_, rfl⟩
   obtain ⟨r', hr'⟩ := inner _ 0 (Nat.zero_add _)
   refine ⟨r', ?_⟩
   rw [ziq]
   simp only [zfD, zW, zQ hq', zm hq', cnT]
   exact hr'
 exact outer _ 0 (Nat.zero_add _)
section
variable {c : Config} (g : zan c) (hk : 0 <= c.kernel /\ c.kernel < 1024)
include g hk
theorem zqj : (z4 c).length <= 400 := zB6 g (Nat.le_refl _)
theorem zh9 : ∃ l x, z4 c = l ++ [x] /\ x.1 + x.2.1 = 16 * tF c (nP c) := by
 obtain ⟨n, hn⟩ : ∃ n, nP c = n + 1 := ⟨nP c - 1, by have := g.least; unfold nP; omega⟩
 unfold z4
 rw [hn, zc1, show 1 + z5 (P c n) = z5 (P c n) + 1 by omega, rep]
 exact ⟨_, _, by rw [← List.append_assoc, ← List.append_assoc], by rw [tF]; simp only; omega⟩
theorem zKU : bop .quo .i64 (i64.wrap (i64.wrap (((16 * tF c (nP c) : Nat) : Int) + 16) - 1)) 16 = (tF c (nP c) : Int) := by
 have ht := zpO g hk (Nat.le_refl (nP c))
 have e1 : i64.wrap (((16 * tF c (nP c) : Nat) : Int) + 16) = ((16 * tF c (nP c) + 16 : Nat) : Int) := zo _ _ (by omega) (by omega)
 have e2 : i64.wrap (((16 * tF c (nP c) + 16 : Nat) : Int) - 1) = ((16 * tF c (nP c) + 15 : Nat) : Int) := zo _ _ (by omega) (by omega)
 rw [e1, e2, zch _ (by omega)]
 omega
theorem zGr : ∀ m i, i + (m + 1) = (z4 c).length -> ∀ (x0 x1 x3 : Int) (x4 : List PartitionPlace) (x5 : List ChannelPlace), Inv c i x0 x4 x5 -> ∃ L : Layout, zbL c (.l4 x0 x1 (i : Int) x3 x4 x5) = some (L, 0) /\ L.end_ = (tF c (nP c) : Int) := by
 have hlen := zqj g hk
 intro m
 induction m with
 | zero =>
  intro i hi x0 x1 x3 x4 x5 h
  obtain ⟨x0', x3', x4', x5', h', e⟩ := zwp g hk (show i < (z4 c).length by omega) (x0 := x0) (x1 := x1) (x3 := x3) h (by omega)
  obtain ⟨l, x, hl, hx⟩ := zh9 g hk
  have hg : ∀ h : i < (z4 c).length, (z4 c)[i] = x := by
   rw [hl] at hi ⊢
   intro h
   have hil : i = l.length := by rw [List.length_append, List.length_singleton] at hi; omega
   subst hil
   simp
  obtain ⟨p1, p2⟩ := zw (zcg g hk)
  have p1' : zer c = (z4 c).map mkR := p1
  rw [e, hg, hx]
  have hf : decide (((i + 1 : Nat) : Int) < (((z4 c).map mkR).length : Int)) = false := zR (by rw [List.length_map]; omega)
  rw [zaT]
  simp only [zbC, p1', hf, cnF, zKU g hk, id]
  exact ⟨_, rfl, rfl⟩
 | succ m ih =>
  intro i hi x0 x1 x3 x4 x5 h
  obtain ⟨x0', x3', x4', x5', h', e⟩ := zwp g hk (show i < (z4 c).length by omega) (x0 := x0) (x1 := x1) (x3 := x3) h (by omega)
  rw [e]
  exact ih (i + 1) (by omega) _ _ _ _ _ h'
theorem zBI : ∀ m k, k + m = nC c -> ∀ xs : List ChannelPlace, xs.length = nC c -> (∀ p ∈ xs, p.dests.length <= 0) -> ∃ L : Layout, zbL c (.l0 (k : Int) xs) = some (L, 0) /\ L.end_ = (tF c (nP c) : Int) := by
 have hC := g.chans
 have hP := g.few.parts
 intro m
 induction m with
 | zero =>
  intro k hk' xs hx hd
  obtain ⟨p1, p2⟩ := zw (zcg g hk)
  have p2' : zno c = true := p2
  have hf : decide ((k : Int) < (c.channels.length : Int)) = false := zR (by unfold nC at hk'; omega)
  rw [zaT]
  simp only [zbC, hf, p2', cnF, cnT, zW]
  obtain ⟨l, x, hl, _⟩ := zh9 g hk
  refine zGr g hk ((z4 c).length - 1) 0 (by rw [hl, List.length_append, List.length_singleton]; omega) _ _ _ _ _ ⟨⟨Int.le_refl _, fun h => by omega⟩, by rw [List.length_replicate]; rfl, hx, fun p hp => ?_, hd⟩
  rw [(List.mem_replicate.1 hp).2]; exact Nat.le_refl _
 | succ m ih =>
  intro k hk' xs hx hd
  have hkk : k < c.channels.length := by unfold nC at hk'; omega
  obtain ⟨r, hr⟩ := zmx g (k : Int)
  obtain ⟨p1, p2⟩ := zw hr
  have p2' : zpH c (k : Int) = true := p2
  have hkx : k < xs.length := by omega
  have hl2 : ∀ y, k < (List.set xs k y).length := fun y => by rw [List.length_set]; exact hkx
  rw [zaT]
  simp only [zbC, zW, zQ hkk, p2', zm hkx, zm (hl2 _), cnT, zi k (show k < 4611686018427387904 by omega)]
  refine ih (k + 1) (by omega) _ (by rw [List.length_set, List.length_set]; exact hx) fun p hp => ?_
  have h0 := hd _ (zbJ hkx)
  rcases List.mem_or_eq_of_mem_set hp with hp | rfl
  . rcases List.mem_or_eq_of_mem_set hp with hp | rfl
    . exact hd p hp
    . exact h0
  . have e : ze (List.set xs k ⟨(ze xs k).lock, (ze xs k).stage, (zmD c (k : Int)).1, (ze xs k).port, (ze xs k).dests⟩) k = ⟨(ze xs k).lock, (ze xs k).stage, (zmD c (k : Int)).1, (ze xs k).port, (ze xs k).dests⟩ := by
     simp [ze, List.getD, List.getElem?_set, hkx]
    show (ze (List.set xs k _) k).dests.length <= 0
    rw [e]; exact h0
theorem of_r : ∃ L : Layout, zkC c = some (L, 0) /\ L.end_ = (tF c (nP c) : Int) := by
 obtain ⟨k1, k2⟩ := zw (zBA g hk)
 have k1' : zvo c = true := k1
 have k2' : znn c = true := k2
 have hC := g.chans
 have hP := g.few.parts
 unfold zkC zkf
 rw [k1', k2', cnT, Bool.not_true, cnF, zfT _ _ (by unfold B47; omega), zfT _ _ (by unfold B47; omega), cnT, cnT, zW]
 exact zBI g hk (nC c) 0 (Nat.zero_add _) _ (by rw [List.length_replicate]; rfl) fun p hp => by rw [(List.mem_replicate.1 hp).2]; exact Nat.le_refl _
theorem zMK : zqy c = some ((tF c (nP c) : Int) - c.kernel, 0) := by
 obtain ⟨L, h1, h2⟩ := of_r g hk
 obtain ⟨k1, k2⟩ := zw h1
 have k1' : zal c = (L, 0) := k1
 have k2' : zkF c = true := k2
 have ht := zpO g hk (Nat.le_refl (nP c))
 unfold zqy zlp
 rw [k2', k1', cnT, h2, z9 _ (by omega) (by omega)]
 rfl
theorem zMJ : zq3 c = some ((tF c (nP c) : Int) - c.kernel, 0) := by
 obtain ⟨k1, k2⟩ := zw (zJL g hk)
 have k1' : zdB c = (lay c, 0) := k1
 have k2' : znm c = true := k2
 have ht := zpO g hk (Nat.le_refl (nP c))
 unfold zq3 zlW
 rw [k2', k1', cnT, show (lay c, (0 : Int)).1.end_ = (tF c (nP c) : Int) from rfl, z9 _ (by omega) (by omega)]
 rfl
end
noncomputable def kin (c : Config) : Bool := decide (0 <= c.kernel) && decide (c.kernel <= i64.wrap (c.frames - 1))
noncomputable def rin (c : Config) : Bool := decide (1 <= c.room) && decide (c.room <= i64.wrap (c.frames - c.kernel))
noncomputable def kmq (c : Config) (p k : Nat) : Bool := zfU (Rg c p k).frame (Rg c p k).pages c.kernel c.room
noncomputable def zoM (c : Config) : Bool := (List.range (nP c)).any fun p => (List.range (zat c p)).any (kmq c p)
noncomputable def zma (c : Config) : Bool := kin c && (rin c && (!(zoM c) && decide ((tF c (nP c) : Int) - c.kernel <= c.room)))
theorem zBp {c : Config} (g : zan c) (h : kin c = true) : 0 <= c.kernel /\ c.kernel < 1024 := by
 have hf := g.frames
 unfold kin at h
 rw [z9 _ (by omega) (by omega)] at h
 simp only [Bool.and_eq_true, decide_eq_true_eq] at h
 omega
theorem zKJ {c : Config} (g : zan c) : zuk c = some (zma c) := by
 have hP := g.few.parts
 unfold zuk zou zma
 rw [zjr, zjr]
 show cond (!(kin c)) _ (cond (!(rin c)) _ _) = _
 cases h1 : kin c with
 | false => rfl
 | true =>
 cases h2 : rin c with
 | false => rfl
 | true =>
 rw [Bool.not_true, cnF, cnF, Bool.true_and, Bool.true_and]
 have hk := zBp g h1
 have h := zaj (n := nP c) (f := fun p => zps c (.l0 (p : Int))) (q := fun p => (List.range (zat c p)).any (kmq c p)) (r := some false) (e := some (decide ((tF c (nP c) : Int) - c.kernel <= c.room))) (fun p hp => by
  have hp' : p < c.partitions.length := hp
  have hn := (g.nregs p hp').2
  have hin := zaj (n := zat c p) (f := fun k => zps c (.l4 (p : Int) (k : Int))) (q := kmq c p) (r := some false) (e := zps c (.l0 ((p + 1 : Nat) : Int))) (fun k hkk => by
   have hkk' : k < (za c.partitions p).regions.length := hkk
   rw [zip]
   simp only [zfC, zW, zm hp', zQ hkk', zm hkk', cnT, zi k (show k < 4611686018427387904 by omega)]
   rfl) (by
   have hf : decide ((zat c p : Int) < ((za c.partitions p).regions.length : Int)) = false := zR (Nat.le_refl _)
   rw [zip]
   simp only [zfC, zW, zm hp', hf, cnT, cnF, zi p (show p < 4611686018427387904 by omega)])
  refine Eq.trans ?_ hin
  rw [zip]
  simp only [zfC, zQ hp', cnT]
  rfl) (by
  obtain ⟨k1, k2⟩ := zw (zMK g hk)
  have k1' : zoZ c = _ := k1
  have k2' : zrb c = true := k2
  have hf : decide ((nP c : Int) < (c.partitions.length : Int)) = false := zR (Nat.le_refl _)
  rw [zip]
  simp only [zfC, hf, cnF, k1', k2', cnT]
  rfl)
 refine Eq.trans h ?_
 show cond (zoM c) _ _ = _
 cases zoM c <;> rfl
theorem zBo {c : Config} (g : zan c) : zm2 c = some (zma c) := by
 have hP := g.few.parts
 unfold zm2 zi5 zma
 rw [zeZ, zeZ]
 show cond (!(kin c)) _ (cond (!(rin c)) _ _) = _
 cases h1 : kin c with
 | false => rfl
 | true =>
 cases h2 : rin c with
 | false => rfl
 | true =>
 rw [Bool.not_true, cnF, cnF, Bool.true_and, Bool.true_and]
 have hk := zBp g h1
 have h := zaj (n := nP c) (f := fun p => zjH c (.l0 (p : Int))) (q := fun p => (List.range (zat c p)).any (kmq c p)) (r := some false) (e := some (decide ((tF c (nP c) : Int) - c.kernel <= c.room))) (fun p hp => by
  have hp' : p < c.partitions.length := hp
  have hn := (g.nregs p hp').2
  have hin := zaj (n := zat c p) (f := fun k => zjH c (.l4 (p : Int) (P c p).regions (zat c p) (k : Int))) (q := kmq c p) (r := some false) (e := zjH c (.l0 ((p + 1 : Nat) : Int))) (fun k hkk => by
   have hkk' : k < (P c p).regions.length := hkk
   rw [zgB]
   simp only [zdm, zW, zQ hkk, zm hkk', cnT, zi k (show k < 4611686018427387904 by omega)]
   rfl) (by
   rw [zgB]
   simp only [zdm, zR (Nat.le_refl _), cnF, zi p (show p < 4611686018427387904 by omega)])
  refine Eq.trans ?_ hin
  rw [zgB]
  simp only [zdm, zW, zQ hp', zm hp', cnT]
  rfl) (by
  obtain ⟨k1, k2⟩ := zw (zMJ g hk)
  have k1' : zpd c = _ := k1
  have k2' : zru c = true := k2
  have hf : decide ((nP c : Int) < (c.partitions.length : Int)) = false := zR (Nat.le_refl _)
  rw [zgB]
  simp only [zdm, hf, cnF, k1', k2', cnT]
  rfl)
 refine Eq.trans h ?_
 show cond (zoM c) _ _ = _
 cases zoM c <;> rfl
noncomputable def zaL (c : Config) : Bool := zh7 c && zma c
theorem zrD {c : Config} (hc : zbu c) : zb8 (zug c) (zaL c) := zET hc fun h => zKJ (zeY hc h)
theorem zIs {c : Config} (hc : zbu c) : zb8 (zuh c) (zaL c) := zES hc fun h => zBo (zeY hc h)
theorem zfM (s : Nat) : ∀ (l : List LayoutEnd) (a j : Nat), j < l.length -> zbe (zao s a l) j = ⟨(zbf l j).partition, (zbf l j).port, ((a + j * s : Nat) : Int)⟩
 | [], _, _, h => by simp at h
 | e :: l, a, 0, h => by simp [zao, zbe, zbf]
 | e :: l, a, j + 1, h => by
  have := zfM s l (a + s) j (by simpa using h)
  rw [show a + s + j * s = a + (j + 1) * s by rw [Nat.add_mul]; omega] at this
  exact this
theorem zuK {c : Config} {n k : Nat} (hk : k < n) : ze (chL c n) k = zKP c k := by
 simp [ze, List.getD, chL, hk]
theorem zk3 {f n j : Nat} (hj : j < n) : zx (tabs f n) j = ((f + 1 + j : Nat) : Int) := by
 simp [zx, List.getD, tabs, hj]
section
variable {c : Config} (g : zan c) (hk : 0 <= c.kernel /\ c.kernel < 1024)
include g hk
end
theorem zgs {α R : Type} {l : List α} {f : Nat -> Option R} {q : α -> Bool} {g : α -> Option R} {e : Option R} (hs : ∀ i (h : i < l.length), f i = cond (q l[i]) (g l[i]) (f (i + 1))) (he : f l.length = e) : f 0 = match l.find? q with | some x => g x | none => e := by
 have : ∀ m i, i + m = l.length -> f i = match (l.drop i).find? q with | some x => g x | none => e := by
  intro m
  induction m with
  | zero =>
   intro i hi
   rw [Nat.add_zero] at hi
   subst hi
   simp [he]
  | succ m ih =>
   intro i hi
   have hl : i < l.length := by omega
   rw [hs i hl, ih (i + 1) (by omega), List.drop_eq_getElem_cons hl, List.find?_cons]
   cases q l[i] <;> rfl
 have h := this l.length 0 (Nat.zero_add _)
 rwa [List.drop_zero] at h
noncomputable def zB9 (c : Config) (f : Nat) (p k : Nat) : Bool := decide ((Rg c p k).frame <= f) && decide ((f : Int) < (Rg c p k).frame + (Rg c p k).pages)
noncomputable def regF (c : Config) (f : Nat) : Option Nat := (List.range (nP c)).find? fun p => (List.range (zat c p)).any (zB9 c f p)
noncomputable def own (c : Config) (a : Nat) : Owner := match (z4 c).find? (fun x => inP x a) with
 | some x => x.2.2
 | none => match regF c (a / 16) with
  | some p => ⟨1, (p : Int), 0⟩
  | none => ⟨0, 0, 0⟩
section
variable {c : Config} (g : zan c) (hk : 0 <= c.kernel /\ c.kernel < 1024)
include g
end
theorem zz2 {x : Partition} (h1 : x.regions.length * 32 <= B47) (h2 : x.ports.length * 16 <= B47) : zxa x x = some true := by
 unfold B47 at h1 h2
 have h0 := zz (n := x.regions.length) (f := fun i (_ : Unit) => zt5 x x (.l0 (i : Int))) (S := fun _ => ()) (fun i hi => by
  rw [zim]
  simp only [zfA, zW, zQ hi, zm hi, cnT, beq_self_eq_true, Bool.and_true, Bool.not_true, cnF, zi i (show i < 4611686018427387904 by omega)])
 have h4 := zz (n := x.ports.length) (f := fun i (_ : Unit) => zt5 x x (.l4 (i : Int))) (S := fun _ => ()) (fun i hi => by
  rw [zim]
  simp only [zfA, zW, zQ hi, zm hi, cnT, beq_self_eq_true, Bool.and_true, Bool.not_true, cnF, zi i (show i < 4611686018427387904 by omega)])
 unfold zxa zok
 simp only [beq_self_eq_true, Bool.not_true, cnF]
 refine Eq.trans h0 ?_
 rw [zim]
 simp only [zfA, zR (Nat.le_refl _), cnF]
 refine Eq.trans h4 ?_
 rw [zim]
 simp only [zfA, zR (Nat.le_refl _), cnF, id]
theorem zOy {c : Config} (hc : zbu c) : zwU c c = some true := by
 have hB : B47 = 140737488351232 := rfl
 have b1 := hc.chans
 have b2 := hc.cores
 have b3 := hc.parts
 have h0 := zz (n := c.channels.length) (f := fun i (_ : Unit) => zmM c c (.l0 (i : Int))) (S := fun _ => ()) (fun i hi => by
  rw [zcQ]
  simp only [zdp, zW, zQ hi, zm hi, cnT, beq_self_eq_true, Bool.and_true, Bool.not_true, cnF, zi i (show i < 4611686018427387904 by omega)])
 have h4 := zz (n := c.cores.length) (f := fun i (_ : Unit) => zmM c c (.l4 (i : Int))) (S := fun _ => ()) (fun i hi => by
  have b4 := hc.core i hi
  have h8 := zz (n := (zK c.cores i).length) (f := fun k (_ : Unit) => zmM c c (.l8 (i : Int) (k : Int))) (S := fun _ => ()) (fun k hk => by
   rw [zcQ]
   simp only [zdp, zW, zQ hk, zm hi, zm hk, cnT, beq_self_eq_true, Bool.and_true, Bool.not_true, cnF, zi k (show k < 4611686018427387904 by omega)])
  rw [zcQ]
  simp only [zdp, zW, zQ hi, zm hi, cnT, beq_self_eq_true, Bool.not_true, cnF]
  refine Eq.trans h8 ?_
  rw [zcQ]
  simp only [zdp, zW, zm hi, zR (Nat.le_refl _), cnT, cnF, zi i (show i < 4611686018427387904 by omega)])
 have h12 := zz (n := c.partitions.length) (f := fun i (_ : Unit) => zmM c c (.l12 (i : Int))) (S := fun _ => ()) (fun i hi => by
  obtain ⟨k1, k2⟩ := zw (zz2 (hc.regions i hi) (hc.ports i hi))
  have k1' : zG9 (za c.partitions i) (za c.partitions i) = true := k1
  have k2' : zxO (za c.partitions i) (za c.partitions i) = true := k2
  rw [zcQ]
  simp only [zdp, zW, zQ hi, zm hi, cnT, k1', k2', Bool.not_true, cnF, zi i (show i < 4611686018427387904 by omega)])
 unfold zwU zob
 simp only [beq_self_eq_true, Bool.not_true, cnF]
 refine Eq.trans h0 ?_
 rw [zcQ]
 simp only [zdp, zR (Nat.le_refl _), cnF]
 refine Eq.trans h4 ?_
 rw [zcQ]
 simp only [zdp, zR (Nat.le_refl _), cnF]
 refine Eq.trans h12 ?_
 rw [zcQ]
 simp only [zdp, zR (Nat.le_refl _), cnF, id]
noncomputable def nW (c : Config) : Nat := 16 * c.frames.toNat
theorem zml {c : Config} (g : zan c) (hk : 0 <= c.kernel /\ c.kernel < 1024) : nW c <= 16384 /\ (nW c : Int) = 16 * c.frames := by
 have := g.frames
 unfold nW; omega
theorem zBB (a m b o : Int) : zfU a m b o = (decide (a < i64.wrap (b + o)) && decide (b < i64.wrap (a + m))) := by
 unfold zfU
 refine (zw (r := (decide (a < i64.wrap (b + o)) && decide (b < i64.wrap (a + m)))) ?_).1
 unfold zjL ziK
 by_cases h : a < i64.wrap (b + o) <;> simp [h]
theorem zMF {a m b o x : Int} (h1 : 0 <= a /\ 0 <= m /\ a + m <= 4096) (h2 : 0 <= b /\ 0 <= o /\ b + o <= 4096) (h3 : a <= x /\ x < a + m) (h4 : b <= x /\ x < b + o) : zfU a m b o = true := by
 rw [zBB, z9 _ (by omega) (by omega), z9 _ (by omega) (by omega), decide_eq_true (by omega), decide_eq_true (by omega)]; rfl
structure zpX (c : Config) : Prop where
 kernel : 0 <= c.kernel /\ c.kernel < 1024
 room : 1 <= c.room /\ c.kernel + c.room <= c.frames
 apart : ∀ p k, p < nP c -> k < zat c p -> zfU (Rg c p k).frame (Rg c p k).pages c.kernel c.room = false
 need : (tF c (nP c) : Int) - c.kernel <= c.room
theorem zhY {c : Config} (g : zan c) (h : zma c = true) : zpX c := by
 simp only [zma, Bool.and_eq_true, decide_eq_true_eq] at h
 obtain ⟨h1, h2, h3, h4⟩ := h
 have hk := zBp g h1
 have hf := g.frames
 unfold rin at h2
 rw [z9 _ (by omega) (by omega)] at h2
 simp only [Bool.and_eq_true, decide_eq_true_eq] at h2
 refine ⟨hk, ⟨h2.1, by omega⟩, fun p k hp hkk => ?_, h4⟩
 have h5 : zoM c = false := by simpa using h3
 exact any_f.1 (any_f.1 h5 p hp) k hkk
noncomputable def za4 (xs : List PartitionPlace) (x : Pc) : List PartitionPlace :=
 let j := x.2.2.index.toNat
 let y := zb xs j
 if x.2.2.kind = 3 then List.set xs j ⟨(x.1 : Int), y.save, y.state, y.root, y.tables⟩
 else if x.2.2.kind = 4 then List.set xs j ⟨y.lock, (x.1 : Int), y.state, y.root, y.tables⟩
 else if x.2.2.kind = 5 then List.set xs j ⟨y.lock, y.save, (x.1 : Int), y.root, y.tables⟩
 else if x.2.2.kind = 9 then (if y.root = 0 then List.set xs j ⟨y.lock, y.save, y.state, ((x.1 / 16 : Nat) : Int), y.tables⟩ else List.set xs j ⟨y.lock, y.save, y.state, y.root, y.tables ++ [((x.1 / 16 : Nat) : Int)]⟩)
 else xs
section
variable {c : Config} (g : zan c) (hk : 0 <= c.kernel /\ c.kernel < 1024)
include g hk
theorem ztC {i : Nat} (hi : i < (z4 c).length) {x0 x1 x3 : Int} {x4 : List PartitionPlace} {x5 : List ChannelPlace} (h : Inv c i x0 x4 x5) (hi4 : i <= 4000) : ∃ x0' x3' x5', Inv c (i + 1) x0' (za4 x4 (z4 c)[i]) x5' /\ zbL c (.l4 x0 x1 (i : Int) x3 x4 x5) = zbL c (.l4 x0' (((z4 c)[i].1 + (z4 c)[i].2.1 : Nat) : Int) ((i + 1 : Nat) : Int) x3' (za4 x4 (z4 c)[i]) x5') := by
 obtain ⟨p1, p2⟩ := zw (zcg g hk)
 have p1' : zer c = (z4 c).map mkR := p1
 have hm : (z4 c)[i] ∈ z4 c := List.getElem_mem hi
 have he := zqi g hk hm
 have e81 : ∀ (a b d : Int) x y, zbL c (.l81 a b (i : Int) d x y) = zbL c (.l4 a b ((i + 1 : Nat) : Int) d x y) := fun a b d x y => by
  rw [zaT]
  simp only [zbC, zi i (show i < 4611686018427387904 by omega)]
 have hl : i < ((z4 c).map mkR).length := by rw [List.length_map]; exact hi
 have ew : i64.wrap ((mkR (z4 c)[i]).at_ + (mkR (z4 c)[i]).size) = (((z4 c)[i].1 + (z4 c)[i].2.1 : Nat) : Int) := zo _ _ (by simp only [mkR]; omega) (by omega)
 have hr : ∀ {x : Int} {n : Nat}, 0 <= x -> x < n -> zN x n = true := zbi
 have hok := zwr (ref_mem.1 hm)
 have eq16 : bop .quo .i64 (((z4 c)[i].1 : Nat) : Int) 16 = (((z4 c)[i].1 / 16 : Nat) : Int) := zch _ (by omega)
 rw [zaT]
 simp only [zbC, p1', zW, zQ hl, zm hl, cnT, zk5 hi, ew, e81, Nat.beq_refl]
 have ho : (mkR (z4 c)[i]).owner = (z4 c)[i].2.2 := rfl
 have ha : (mkR (z4 c)[i]).at_ = (((z4 c)[i].1 : Nat) : Int) := rfl
 rw [ho, ha, eq16]
 have h4 := h.l4
 have h5 := h.l5
 generalize (z4 c)[i] = x at *
 rcases hok with k | ⟨k, j, hj, ij⟩ | ⟨k, j, hj, ij⟩ | ⟨k, hc⟩
 . have e : za4 x4 x = x4 := by unfold za4; rw [k]; rfl
   rw [e, k]; refine ⟨_, _, _, ?_, rfl⟩; exact h.up
 . have hj4 : j < x4.length := by omega
   have hmem := h.t _ (zk6 hj4)
   rw [ij]
   simp only [zm hj4, zW, cnT]
   rcases k with k | k | k | k
   . have e : za4 x4 x = List.set x4 j ⟨(x.1 : Int), (zb x4 j).save, (zb x4 j).state, (zb x4 j).root, (zb x4 j).tables⟩ := by unfold za4; rw [k, ij]; rfl
     rw [e, k]; refine ⟨_, _, _, ?_, rfl⟩; exact h.set4 (Nat.le_succ_of_le hmem)
   . have e : za4 x4 x = List.set x4 j ⟨(zb x4 j).lock, (x.1 : Int), (zb x4 j).state, (zb x4 j).root, (zb x4 j).tables⟩ := by unfold za4; rw [k, ij]; rfl
     rw [e, k]; refine ⟨_, _, _, ?_, rfl⟩; exact h.set4 (Nat.le_succ_of_le hmem)
   . have e : za4 x4 x = List.set x4 j ⟨(zb x4 j).lock, (zb x4 j).save, (x.1 : Int), (zb x4 j).root, (zb x4 j).tables⟩ := by unfold za4; rw [k, ij]; rfl
     rw [e, k]; refine ⟨_, _, _, ?_, rfl⟩; exact h.set4 (Nat.le_succ_of_le hmem)
   . have b1 : ∀ y : Int, leB (((zb x4 j).tables.length + [y].length) * 8) 140737488355328 = true := zco (by omega) (by omega)
     simp only [b1, cnT]
     by_cases hroot : (zb x4 j).root = 0
     . have e : za4 x4 x = List.set x4 j ⟨(zb x4 j).lock, (zb x4 j).save, (zb x4 j).state, ((x.1 / 16 : Nat) : Int), (zb x4 j).tables⟩ := by
        unfold za4; rw [k, ij]
        show (if (zb x4 j).root = 0 then _ else _) = _
        rw [if_pos hroot]; rfl
       have hb : ((zb x4 j).root == 0) = true := by rw [hroot]; rfl
       rw [e, k, hb]; refine ⟨_, _, _, ?_, rfl⟩; exact h.set4 (Nat.le_succ_of_le hmem)
     . have e : za4 x4 x = List.set x4 j ⟨(zb x4 j).lock, (zb x4 j).save, (zb x4 j).state, (zb x4 j).root, (zb x4 j).tables ++ [((x.1 / 16 : Nat) : Int)]⟩ := by
        unfold za4; rw [k, ij]
        show (if (zb x4 j).root = 0 then _ else _) = _
        rw [if_neg hroot]; rfl
       have hb : ((zb x4 j).root == 0) = false := beq_eq_false_iff_ne.2 hroot
       rw [e, k, hb]; refine ⟨_, _, _, ?_, rfl⟩; exact h.set4 (by rw [List.length_append]; exact Nat.succ_le_succ hmem)
 . have hj5 : j < x5.length := by omega
   have hmem := h.d _ (zbJ hj5)
   have e : za4 x4 x = x4 := by unfold za4; rcases k with k | k <;> rw [k] <;> rfl
   rw [e, ij]
   simp only [zm hj5, zW, cnT]
   rcases k with k | k
   . rw [k]; refine ⟨_, _, _, ?_, rfl⟩; exact Inv.setc (x0 := x0) (h.set5 (Nat.le_succ_of_le hmem)) ⟨Int.natCast_nonneg _, fun _ => Int.ofNat_lt.2 hj⟩
   . rw [k]; refine ⟨_, _, _, ?_, rfl⟩; exact h.set5 (Nat.le_succ_of_le hmem)
 . obtain ⟨c1, c2⟩ := h.ch
   have c2 := c2 hc
   have hmem := h.d _ (zbJ (xs := x5) (i := x0.toNat) (by omega))
   have b1 : ∀ y : DestPlace, leB (((ze x5 x0.toNat).dests.length + [y].length) * 24) 140737488355328 = true := zco (by omega) (by omega)
   have e : za4 x4 x = x4 := by unfold za4; rw [k]; rfl
   rw [e, k]
   simp only [hr c1 (show x0 < (x5.length : Nat) by omega), b1, cnT]
   refine ⟨_, _, _, ?_, rfl⟩; exact h.set5 (by rw [List.length_append]; exact Nat.succ_le_succ hmem)
theorem zBJ : ∀ m i, i + (m + 1) = (z4 c).length -> ∀ (x0 x1 x3 : Int) (x4 : List PartitionPlace) (x5 : List ChannelPlace), Inv c i x0 x4 x5 -> ∃ L : Layout, zbL c (.l4 x0 x1 (i : Int) x3 x4 x5) = some (L, 0) /\ L.partitions = ((z4 c).drop i).foldl za4 x4 := by
 have hlen := zqj g hk
 intro m
 induction m with
 | zero =>
  intro i hi x0 x1 x3 x4 x5 h
  have hil : i < (z4 c).length := by omega
  obtain ⟨x0', x3', x5', h', e⟩ := ztC g hk hil (x0 := x0) (x1 := x1) (x3 := x3) h (by omega)
  obtain ⟨p1, p2⟩ := zw (zcg g hk)
  have p1' : zer c = (z4 c).map mkR := p1
  rw [e]
  have hf : decide (((i + 1 : Nat) : Int) < (((z4 c).map mkR).length : Int)) = false := zR (by rw [List.length_map]; omega)
  rw [zaT]
  simp only [zbC, p1', hf, cnF, id]
  refine ⟨_, rfl, ?_⟩
  rw [List.drop_eq_getElem_cons hil, List.drop_eq_nil_of_le (by omega)]
  rfl
 | succ m ih =>
  intro i hi x0 x1 x3 x4 x5 h
  have hil : i < (z4 c).length := by omega
  obtain ⟨x0', x3', x5', h', e⟩ := ztC g hk hil (x0 := x0) (x1 := x1) (x3 := x3) h (by omega)
  rw [e, List.drop_eq_getElem_cons hil]
  exact ih (i + 1) (by omega) _ _ _ _ _ h'
end
noncomputable def FL (c : Config) (f : Nat -> PartitionPlace) : List PartitionPlace := (List.range (nP c)).map f
noncomputable def zkO (y : PartitionPlace) (x : Pc) : PartitionPlace :=
 if x.2.2.kind = 3 then ⟨(x.1 : Int), y.save, y.state, y.root, y.tables⟩
 else if x.2.2.kind = 4 then ⟨y.lock, (x.1 : Int), y.state, y.root, y.tables⟩
 else if x.2.2.kind = 5 then ⟨y.lock, y.save, (x.1 : Int), y.root, y.tables⟩
 else if x.2.2.kind = 9 then (if y.root = 0 then ⟨y.lock, y.save, y.state, ((x.1 / 16 : Nat) : Int), y.tables⟩ else ⟨y.lock, y.save, y.state, y.root, y.tables ++ [((x.1 / 16 : Nat) : Int)]⟩)
 else y
noncomputable def zbG (q : Nat) (y : PartitionPlace) (x : Pc) : PartitionPlace := if x.2.2.index = (q : Int) then zkO y x else y
theorem zQp {c : Config} {f : Nat -> PartitionPlace} {j : Nat} (h : j < nP c) : zb (FL c f) j = f j := by
 simp [zb, List.getD, FL, h]
theorem zKj {c : Config} {f : Nat -> PartitionPlace} {j : Nat} {y : PartitionPlace} (h : j < nP c) : List.set (FL c f) j y = FL c (fun q => if q = j then y else f q) := by
 apply List.ext_getElem
 . simp [FL]
 . intro i h1 h2
   simp only [FL, List.getElem_set, List.getElem_map, List.getElem_range]
   by_cases hij : j = i
   . subst hij; simp
   . rw [if_neg hij, if_neg (fun e => hij e.symm)]
theorem zpW {c : Config} {f g : Nat -> PartitionPlace} (h : ∀ q, q < nP c -> f q = g q) : FL c f = FL c g := by
 unfold FL
 apply List.map_congr_left
 intro q hq
 exact h q (by simpa using hq)
theorem zPz {c : Config} {f : Nat -> PartitionPlace} {x : Pc} (hx : Is c x) : za4 (FL c f) x = FL c (fun q => zbG q (f q) x) := by
 have other : x.2.2.kind ≠ 3 -> x.2.2.kind ≠ 4 -> x.2.2.kind ≠ 5 -> x.2.2.kind ≠ 9 -> za4 (FL c f) x = FL c (fun q => zbG q (f q) x) := fun h3 h4 h5 h9 => by
  unfold za4
  simp only [if_neg h3, if_neg h4, if_neg h5, if_neg h9]
  refine zpW fun q _ => ?_
  unfold zbG zkO
  simp only [if_neg h3, if_neg h4, if_neg h5, if_neg h9]
  split <;> rfl
 rcases zwr hx with k | ⟨k, j, hj, ij⟩ | ⟨k, _⟩ | ⟨k, _⟩
 . exact other (by omega) (by omega) (by omega) (by omega)
 . have hst : ∀ y : PartitionPlace, y = zkO (f j) x -> List.set (FL c f) j y = FL c (fun q => zbG q (f q) x) := fun y hy => by
    rw [zKj hj, hy]
    refine zpW fun q _ => ?_
    unfold zbG
    rw [ij]
    by_cases hq : q = j
    . subst hq; rw [if_pos rfl, if_pos rfl]
    . rw [if_neg hq, if_neg (fun e => hq (by omega))]
   unfold za4
   simp only [ij, zW, zQp hj]
   rcases k with k | k | k | k
   . rw [k]; exact hst _ (by unfold zkO; rw [k]; rfl)
   . rw [k]; exact hst _ (by unfold zkO; rw [k]; rfl)
   . rw [k]; exact hst _ (by unfold zkO; rw [k]; rfl)
   . rw [k]
     show (if (f j).root = 0 then _ else _) = _
     split
     . rename_i hr; exact hst _ (by unfold zkO; rw [k]; show _ = (if (f j).root = 0 then _ else _); rw [if_pos hr])
     . rename_i hr; exact hst _ (by unfold zkO; rw [k]; show _ = (if (f j).root = 0 then _ else _); rw [if_neg hr])
 . exact other (by omega) (by omega) (by omega) (by omega)
 . exact other (by omega) (by omega) (by omega) (by omega)
theorem zwd {c : Config} : ∀ (l : List Pc), (∀ x ∈ l, Is c x) -> ∀ f : Nat -> PartitionPlace, l.foldl za4 (FL c f) = FL c (fun q => l.foldl (zbG q) (f q))
 | [], _, f => rfl
 | x :: l, h, f => by
  rw [List.foldl_cons, zPz (h x (List.mem_cons_self ..)), zwd l (fun x hx => h x (List.mem_cons_of_mem _ hx))]
  rfl
def zix : PartitionPlace := ⟨0, 0, 0, 0, []⟩
theorem zgF {q : Nat} {l : List Pc} : (∀ x ∈ l, ∀ y, zbG q y x = y) -> ∀ y, l.foldl (zbG q) y = y := by
 induction l with
 | nil => intro _ y; rfl
 | cons x l ih => intro h y; rw [List.foldl_cons, h x (List.mem_cons_self ..), ih (fun x hx => h x (List.mem_cons_of_mem _ hx))]
theorem zpN {q : Nat} {x : Pc} (h : x.2.2.kind = 2 ∨ x.2.2.kind = 6 ∨ x.2.2.kind = 7 ∨ x.2.2.kind = 8) (y : PartitionPlace) : zbG q y x = y := by
 unfold zbG zkO
 rw [if_neg (show ¬ x.2.2.kind = 3 by omega), if_neg (show ¬ x.2.2.kind = 4 by omega), if_neg (show ¬ x.2.2.kind = 5 by omega), if_neg (show ¬ x.2.2.kind = 9 by omega)]
 split <;> rfl
theorem znr {q : Nat} {x : Pc} {j : Nat} (h : x.2.2.index = (j : Int)) (hj : j ≠ q) (y : PartitionPlace) : zbG q y x = y := by
 unfold zbG
 rw [if_neg (by omega)]
theorem zl5 (c : Config) (q : Nat) : ∀ n, (zbj c n).foldl (zbG q) zix = if q < n then base c q else zix
 | 0 => rfl
 | n + 1 => by
  rw [zbj, List.foldl_append, zl5 c q n]
  by_cases hq : q = n
  . subst hq
    rw [if_neg (Nat.lt_irrefl _), if_pos (Nat.lt_succ_self _)]
    simp only [zep, List.foldl_cons, List.foldl_nil, zbG, if_true, zkO, base, zix]
    rfl
  . have e : ∀ y, (zep c n).foldl (zbG q) y = y := zgF fun x hx y => by
     simp only [zep, List.mem_cons, List.not_mem_nil, or_false] at hx
     rcases hx with rfl | rfl | rfl <;> exact znr (j := n) rfl (fun e => hq e.symm) y
    rw [e]
    by_cases h : q < n
    . rw [if_pos h, if_pos (by omega)]
    . rw [if_neg h, if_neg (by omega)]
theorem zu2 (c : Config) (q : Nat) (y : PartitionPlace) (n : Nat) : (zbU c n).foldl (zbG q) y = y := by
 refine zgF (fun x hx y => zpN ?_ y) y
 obtain ⟨k, _, h | h⟩ := (ziF c n).1 hx
 . simp only [zeh, List.mem_cons, List.not_mem_nil, or_false] at h
   rcases h with rfl | rfl
   . exact .inr (.inl rfl)
   . exact .inr (.inr (.inl rfl))
 . obtain ⟨_, e, _, h2⟩ := zjx h
   exact .inr (.inr (.inr (by rw [h2])))
theorem ztl (c : Config) (q : Nat) (f : Nat) (hf : 1 <= f) : ∀ m, (rep f q (m + 1)).foldl (zbG q) (base c q) = ⟨(base c q).lock, (base c q).save, (base c q).state, (f : Int), tabs f m⟩
 | 0 => by
  have e : (16 * (f + 0)) / 16 = f := by omega
  simp only [rep, List.nil_append, List.foldl_cons, List.foldl_nil, zbG, if_true, zkO, base]
  rw [e]
  rfl
 | m + 1 => by
  have e : (16 * (f + (m + 1))) / 16 = f + 1 + m := by omega
  rw [rep, List.foldl_append, ztl c q f hf m]
  simp only [List.foldl_cons, List.foldl_nil, zbG, if_true, zkO]
  rw [show tabs f (m + 1) = tabs f m ++ [((f + 1 + m : Nat) : Int)] from zaR _ _, e]
  have h0 : ¬ ((f : Nat) : Int) = 0 := by omega
  rw [if_neg h0]
  rfl
theorem zCQ (c : Config) : ∀ i, 1 <= tF c i
 | 0 => by
  rw [tF]
  have h : ∀ n, 2 <= cAt c n := by
   intro n
   induction n with
   | zero => rw [cAt, pAt]; omega
   | succ n ih => rw [cAt]; omega
  have := h (nC c)
  omega
 | i + 1 => by rw [tF]; have := zCQ c i; omega
theorem zoI (c : Config) (q : Nat) : ∀ n, (zc1 c n).foldl (zbG q) (base c q) = if q < n then full c q else base c q
 | 0 => rfl
 | n + 1 => by
  rw [zc1, List.foldl_append, zoI c q n]
  by_cases hq : q = n
  . subst hq
    rw [if_neg (Nat.lt_irrefl _), if_pos (Nat.lt_succ_self _), show 1 + z5 (P c q) = z5 (P c q) + 1 by omega, ztl c q _ (zCQ c q)]
    rfl
  . have e : ∀ y, (rep (tF c n) n (1 + z5 (P c n))).foldl (zbG q) y = y := zgF fun x hx y => by
     obtain ⟨j, _, rfl⟩ := rep_mem.1 hx
     exact znr (j := n) rfl (fun e => hq e.symm) y
    rw [e]
    by_cases h : q < n
    . rw [if_pos h, if_pos (by omega)]
    . rw [if_neg h, if_neg (by omega)]
theorem ztk (c : Config) : (z4 c).foldl za4 (List.replicate (nP c) zix) = plT c (nP c) := by
 have e0 : List.replicate (nP c) zix = FL c fun _ => zix := by
  unfold FL; rw [List.map_const', List.length_range]
 rw [e0, zwd _ (fun x hx => ref_mem.1 hx)]
 refine zpW fun q hq => ?_
 unfold z4
 rw [List.foldl_append, List.foldl_append, List.foldl_append]
 have hb : (bar c).foldl (zbG q) zix = zix := zgF (fun x hx y => zpN (by rw [bar, List.mem_singleton] at hx; subst hx; exact .inl rfl) y) _
 rw [hb, zl5, if_pos hq, zu2, zoI, if_pos hq]
section
variable {c : Config} (g : zan c) (hk : 0 <= c.kernel /\ c.kernel < 1024)
include g hk
theorem zzS : ∀ m k, k + m = nC c -> ∀ xs : List ChannelPlace, xs.length = nC c -> (∀ p ∈ xs, p.dests.length <= 0) -> ∃ L : Layout, zbL c (.l0 (k : Int) xs) = some (L, 0) /\ L.partitions = plT c (nP c) := by
 have hC := g.chans
 have hP := g.few.parts
 intro m
 induction m with
 | zero =>
  intro k hk' xs hx hd
  obtain ⟨p1, p2⟩ := zw (zcg g hk)
  have p2' : zno c = true := p2
  have hf : decide ((k : Int) < (c.channels.length : Int)) = false := zR (by unfold nC at hk'; omega)
  rw [zaT]
  simp only [zbC, hf, p2', cnF, cnT, zW]
  obtain ⟨l, x, hl, _⟩ := zh9 g hk
  rw [← ztk]
  refine zBJ g hk ((z4 c).length - 1) 0 (by rw [hl, List.length_append, List.length_singleton]; omega) _ _ _ _ _ ⟨⟨Int.le_refl _, fun h => by omega⟩, by rw [List.length_replicate]; rfl, hx, fun p hp => ?_, hd⟩
  rw [(List.mem_replicate.1 hp).2]; exact Nat.le_refl _
 | succ m ih =>
  intro k hk' xs hx hd
  have hkk : k < c.channels.length := by unfold nC at hk'; omega
  obtain ⟨r, hr⟩ := zmx g (k : Int)
  obtain ⟨p1, p2⟩ := zw hr
  have p2' : zpH c (k : Int) = true := p2
  have hkx : k < xs.length := by omega
  have hl2 : ∀ y, k < (List.set xs k y).length := fun y => by rw [List.length_set]; exact hkx
  rw [zaT]
  simp only [zbC, zW, zQ hkk, p2', zm hkx, zm (hl2 _), cnT, zi k (show k < 4611686018427387904 by omega)]
  refine ih (k + 1) (by omega) _ (by rw [List.length_set, List.length_set]; exact hx) fun p hp => ?_
  have h0 := hd _ (zbJ hkx)
  rcases List.mem_or_eq_of_mem_set hp with hp | rfl
  . rcases List.mem_or_eq_of_mem_set hp with hp | rfl
    . exact hd p hp
    . exact h0
  . have e : ze (List.set xs k ⟨(ze xs k).lock, (ze xs k).stage, (zmD c (k : Int)).1, (ze xs k).port, (ze xs k).dests⟩) k = ⟨(ze xs k).lock, (ze xs k).stage, (zmD c (k : Int)).1, (ze xs k).port, (ze xs k).dests⟩ := by
     simp [ze, List.getD, List.getElem?_set, hkx]
    show (ze (List.set xs k _) k).dests.length <= 0
    rw [e]; exact h0
theorem zTh : ∃ L : Layout, zkC c = some (L, 0) /\ L.partitions = plT c (nP c) := by
 obtain ⟨k1, k2⟩ := zw (zBA g hk)
 have k1' : zvo c = true := k1
 have k2' : znn c = true := k2
 have hC := g.chans
 have hP := g.few.parts
 unfold zkC zkf
 rw [k1', k2', cnT, Bool.not_true, cnF, zfT _ _ (by unfold B47; omega), zfT _ _ (by unfold B47; omega), cnT, cnT, zW]
 exact zzS g hk (nC c) 0 (Nat.zero_add _) _ (by rw [List.length_replicate]; rfl) fun p hp => by rw [(List.mem_replicate.1 hp).2]; exact Nat.le_refl _
end
structure zca (x : Partition) : Prop where
 few : x.regions.length <= 8
 page : ∀ i, i < x.regions.length -> 0 <= (zh x.regions i).page /\ (zh x.regions i).page <= 255 /\ 1 <= (zh x.regions i).pages /\ (zh x.regions i).page + (zh x.regions i).pages <= 256
 frame : ∀ i, i < x.regions.length -> 0 <= (zh x.regions i).frame /\ (zh x.regions i).frame + (zh x.regions i).pages <= 1024
theorem zoU {c : Config} (g : zan c) {p : Nat} (hp : p < nP c) : zca (P c p) := by
 have hf := g.frames
 refine ⟨(g.nregs p hp).2, fun i hi => ?_, fun i hi => ?_⟩
 . have h := (g.regs p i hp hi).ok
   obtain ⟨a1, a2⟩ := h.page
   obtain ⟨a3, a4⟩ := h.pages
   unfold Rg at a1 a2 a3 a4
   omega
 . have h := g.regs p i hp hi
   have h1 := h.frame
   have h2 := h.fits
   unfold Rg at h1 h2
   omega
noncomputable def zaq (x : Partition) (pg i : Nat) : Bool := decide ((pg : Int) >= (zh x.regions i).page) && decide ((pg : Int) < (zh x.regions i).page + (zh x.regions i).pages)
noncomputable def zbK (x : Partition) (pg : Nat) : Bool := (List.range x.regions.length).any (zaq x pg)
noncomputable def zhe (x : Partition) (pg : Nat) : Int := match (List.range x.regions.length).find? (zaq x pg) with
 | some i => ((zh x.regions i).frame + pg - (zh x.regions i).page) * 16
 | none => -1
noncomputable def zmu (x : Partition) (pg : Nat) : Int := match (List.range x.regions.length).find? (zaq x pg) with
 | some i => (zh x.regions i).rights
 | none => 0
theorem zOt {a : Int} {n : Nat} (h : a = (n : Int)) (hn : n < 4611686018427387904) : bop .quo .i64 a 16 = ((n / 16 : Nat) : Int) := by subst h; exact zch n hn
theorem zGx {x : Partition} (hx : zca x) {pg : Nat} (hpg : pg < 256) : zCy x ((16 * pg : Nat) : Int) = some (zhe x pg) := by
 have h8 := hx.few
 have hq : bop .quo .i64 ((16 * pg : Nat) : Int) 16 = ((pg : Nat) : Int) := by rw [zch _ (by omega)]; congr 1; omega
 have hr : bop .rem .i64 ((16 * pg : Nat) : Int) 16 = ((0 : Nat) : Int) := by rw [zkY]; congr 1; omega
 have h := zgs (l := List.range x.regions.length) (f := fun i => zwQ x ((16 * pg : Nat) : Int) (.l0 (i : Int))) (q := zaq x pg) (g := fun i => some (((zh x.regions i).frame + pg - (zh x.regions i).page) * 16)) (e := some (-1)) (fun i hi => by
  rw [List.length_range] at hi
  rw [List.getElem_range]
  obtain ⟨a1, a2, a3, a4⟩ := hx.page i hi
  obtain ⟨b1, b2⟩ := hx.frame i hi
  have w1 : i64.wrap ((zh x.regions i).page + (zh x.regions i).pages) = (zh x.regions i).page + (zh x.regions i).pages := z9 _ (by omega) (by omega)
  have w2 : i64.wrap ((zh x.regions i).frame + (pg : Int)) = (zh x.regions i).frame + pg := z9 _ (by omega) (by omega)
  have w3 : i64.wrap ((zh x.regions i).frame + pg - (zh x.regions i).page) = (zh x.regions i).frame + pg - (zh x.regions i).page := z9 _ (by omega) (by omega)
  have w4 : i64.wrap (((zh x.regions i).frame + pg - (zh x.regions i).page) * 16) = ((zh x.regions i).frame + pg - (zh x.regions i).page) * 16 := z9 _ (by omega) (by omega)
  have w5 : i64.wrap (((zh x.regions i).frame + pg - (zh x.regions i).page) * 16 + ((0 : Nat) : Int)) = ((zh x.regions i).frame + pg - (zh x.regions i).page) * 16 := by rw [z9 _ (by omega) (by omega)]; omega
  rw [zub]
  simp only [zhH, zW, zQ hi, zm hi, cnT, hq, hr, w1, w2, w3, w4, w5, zi i (show i < 4611686018427387904 by omega), zlg, id]
  rfl) (by
  rw [List.length_range, zub]
  simp only [zhH, zR (Nat.le_refl _), cnF, id])
 refine Eq.trans h ?_
 unfold zhe
 cases (List.range x.regions.length).find? (zaq x pg) <;> rfl
theorem zCe {x : Partition} (hx : zca x) {pg : Nat} (hpg : pg < 256) : zCz x (pg : Int) = some (zmu x pg) := by
 have h8 := hx.few
 have h := zgs (l := List.range x.regions.length) (f := fun i => zwR x (pg : Int) (.l0 (i : Int))) (q := zaq x pg) (g := fun i => some ((zh x.regions i).rights)) (e := some 0) (fun i hi => by
  rw [List.length_range] at hi
  rw [List.getElem_range]
  obtain ⟨a1, a2, a3, a4⟩ := hx.page i hi
  have w1 : i64.wrap ((zh x.regions i).page + (zh x.regions i).pages) = (zh x.regions i).page + (zh x.regions i).pages := z9 _ (by omega) (by omega)
  rw [zuc]
  simp only [zhI, zW, zQ hi, zm hi, cnT, w1, zi i (show i < 4611686018427387904 by omega), zlg, id]
  rfl) (by
  rw [List.length_range, zuc]
  simp only [zhI, zR (Nat.le_refl _), cnF, id])
 refine Eq.trans h ?_
 unfold zmu
 cases (List.range x.regions.length).find? (zaq x pg) <;> rfl
theorem zzW {x : Partition} (hx : zca x) {pg : Nat} (hpg : pg < 256) : decide (zhe x pg < 0) = !(zbK x pg) := by
 unfold zhe zbK
 cases h : (List.range x.regions.length).find? (zaq x pg) with
 | some i =>
  have hm := List.mem_of_find?_eq_some h
  have hq := List.find?_some h
  have hi : i < x.regions.length := by simpa using hm
  obtain ⟨b1, b2⟩ := hx.frame i hi
  have hq' := hq
  unfold zaq at hq'
  simp only [Bool.and_eq_true, decide_eq_true_eq] at hq'
  rw [any_t.2 ⟨i, hi, hq⟩]
  exact decide_eq_false (by dsimp only; omega)
 | none =>
  rw [List.find?_eq_none] at h
  rw [any_f.2 fun i hi => by have := h i (by simpa using hi); simpa using this]
  rfl
theorem zff {x : Partition} (hx : zca x) {t : Nat} (ht : t < 16) : zq x t = (List.range 16).any fun k => zbK x (16 * t + k) := by
 rw [Bool.eq_iff_iff]
 unfold zq zbK
 rw [any_t, any_t]
 constructor
 . rintro ⟨i, hi, hq⟩
   obtain ⟨a1, a2, a3, a4⟩ := hx.page i hi
   unfold zdJ at hq
   simp only [Bool.and_eq_true, decide_eq_true_eq] at hq
   obtain ⟨h1, h2⟩ := hq
   by_cases hc : 16 * t <= (zh x.regions i).page.toNat
   . refine ⟨(zh x.regions i).page.toNat - 16 * t, by omega, any_t.2 ⟨i, hi, ?_⟩⟩
     unfold zaq
     simp only [Bool.and_eq_true, decide_eq_true_eq]
     omega
   . refine ⟨0, by omega, any_t.2 ⟨i, hi, ?_⟩⟩
     unfold zaq
     simp only [Bool.and_eq_true, decide_eq_true_eq]
     omega
 . rintro ⟨k, hk, h⟩
   obtain ⟨i, hi, hq⟩ := any_t.1 h
   obtain ⟨a1, a2, a3, a4⟩ := hx.page i hi
   unfold zaq at hq
   simp only [Bool.and_eq_true, decide_eq_true_eq] at hq
   refine ⟨i, hi, ?_⟩
   unfold zdJ
   simp only [Bool.and_eq_true, decide_eq_true_eq]
   omega
theorem zgY {q : Nat -> Bool} {t : Nat} : ∀ {n : Nat}, t < n -> q t = true -> cnt q t < cnt q n
 | 0, h, _ => by omega
 | n + 1, h, hq => by
  rw [zbc]
  by_cases htn : t = n
  . subst htn; rw [hq]; simp
  . have := zgY (q := q) (t := t) (n := n) (by omega) hq
    omega
structure zAx (x : Partition) (pl : PartitionPlace) (f N : Nat) : Prop where
 tables : pl.tables = tabs f (z5 x)
 root : pl.root = (f : Int)
 room : 16 * (f + z5 x + 1) <= N
 least : N <= 16384
section
variable {c : Config} (g : zan c) (w : zpX c)
include g w
theorem zgG : ∀ {i n : Nat}, i <= n -> tF c i <= tF c n := by
 intro i n h
 induction n with
 | zero => rw [Nat.le_zero.1 h]; exact Nat.le_refl _
 | succ n ih =>
  by_cases hi : i <= n
  . have := ih hi; rw [tF]; omega
  . obtain rfl : i = n + 1 := by omega
    exact Nat.le_refl _
theorem zws {p : Nat} (hp : p < nP c) : zAx (P c p) (full c p) (tF c p) (nW c) := by
 have h1 := zgG g w (show p + 1 <= nP c by omega)
 rw [tF] at h1
 have h2 := w.need
 have h3 := w.room
 have h4 := g.frames
 exact ⟨rfl, rfl, by unfold nW; omega, by unfold nW; omega⟩
end
theorem zKO {c : Config} (hc : zbu c) (hv : zaL c = false) : zpv c [] = some ([], 240, -1) := by
 obtain ⟨k1, k2⟩ := zgo (zrD hc)
 have k1' : zkE c = true := k1
 have k2' : ((znO c).1 == 0) = zaL c := k2
 unfold zpv zl0
 rw [k1', k2', hv]
 rfl
noncomputable def nL (c : Config) : Nat := cond (zaL c) (nW c) 16
theorem zBj {c : Config} (hc : zbu c) {m : List Int} : zwX c m = some (zaL c && decide (m.length = nW c)) := by
 obtain ⟨k1, k2⟩ := zgo (zrD hc)
 have k1' : zkE c = true := k1
 have k2' : ((znO c).1 == 0) = zaL c := k2
 unfold zwX zst
 rw [k1', k2', cnT]
 cases hv : zaL c with
 | false => rfl
 | true =>
  have hv' := hv
  simp only [zaL, Bool.and_eq_true] at hv'
  have g := zeY hc hv'.1
  have w := zhY g hv'.2
  obtain ⟨w1, w2⟩ := zml g w.kernel
  have ew : i64.wrap (c.frames * 16) = (nW c : Int) := zo _ _ (by omega) (by omega)
  rw [cnT, ew, Bool.true_and]
  show some ((m.length : Int) == (nW c : Int)) = _
  congr 1
  rw [Bool.eq_iff_iff, beq_iff_eq, decide_eq_true_eq]
  omega
theorem zuX {l : List Int} (hl : l.length <= 100000) : zHk l = some l := by
 have h1 := zz (n := l.length) (f := fun i s => zHg l (.l0 (i : Int) s)) (S := fun i => l.take i ++ List.replicate (l.length - i) (0 : Int)) (fun i hi => by
  rw [zwS]
  simp only [zp2, zQ hi, cnT, zm hi, zW, zlh l (0 : Int) (Nat.le_of_lt hi), zi i (show i < 4611686018427387904 by omega)]
  rw [ziH l 0 _ hi (by simp [zx, List.getD, hi])])
 simp only [List.take_zero, List.nil_append, Nat.sub_zero, List.take_length, Nat.sub_self, List.replicate_zero, List.append_nil] at h1
 unfold zHk zzG
 rw [zfT _ _ (by unfold B47; omega), cnT, zW]
 refine h1.trans ?_
 rw [zwS]
 simp only [zp2, zR (Nat.le_refl _), cnF, id]
theorem zv4 {l : List Int} (h0 : l ≠ []) (hl : l.length <= 100000) : zwY l = some l := by
 unfold zwY zsw
 have hz : Nat.beq l.length 0 = false := by cases l with | nil => exact absurd rfl h0 | cons => rfl
 rw [hz, zaO (by simp only [List.length_nil]; omega)]
 rfl
theorem of_a {l : List Int} (hl : l.length <= 100000) : zHj l = some (if l.length > 16384 then (none, 2) else if l.length = 0 then (none, 50) else if l.length % 16 ≠ 0 then (none, 50) else (some ⟨l⟩, 0)) := by
 unfold zHj zA9
 by_cases h1 : l.length > 16384
 . rw [if_pos h1, decide_eq_true (by omega)]; rfl
 . rw [if_neg h1, decide_eq_false (by omega), cnF]
   by_cases h2 : l.length = 0
   . rw [if_pos h2, h2]; rfl
   . rw [if_neg h2, show ((l.length : Int) == 0) = false from beq_eq_false_iff_ne.2 (by omega), cnF, zkY]
     by_cases h3 : l.length % 16 = 0
     . rw [if_neg (by simpa using h3), h3]
       obtain ⟨k1, k2⟩ := zw (zv4 (l := l) (fun e => by subst e; exact h2 rfl) hl)
       have k1' : zvm l = l := k1
       have k2' : znl l = true := k2
       rw [k1', k2']; rfl
     . rw [if_pos h3, show (((l.length % 16 : Nat) : Int) == 0) = false from beq_eq_false_iff_ne.2 (by omega)]; rfl
theorem zHF {m : MemMemory} {i : Nat} (hm : m.words.length <= 100000) (hi : i <= 100000) : zjR (some m) (i : Int) 1 = some (if i < m.words.length then 0 else 51) := by
 unfold zjR ziZ
 have h0 : (some m).getD default = m := rfl
 have h1 : (some m).isNone = false := rfl
 have h2 : (some m).isSome = true := rfl
 have ew : i64.wrap ((m.words.length : Int) - (i : Int)) = (m.words.length : Int) - (i : Int) := z9 _ (by omega) (by omega)
 rw [h1, h2, h0, cnF, decide_eq_false (show ¬ ((i : Int) < 0) by omega), cnF, cnT, cnT, ew]
 by_cases h : i < m.words.length
 . rw [if_pos h, decide_eq_false (show ¬ ((i : Int) > (m.words.length : Int)) by omega), decide_eq_false (show ¬ ((1 : Int) > (m.words.length : Int) - (i : Int)) by omega)]; rfl
 . rw [if_neg h]
   by_cases h' : (i : Int) > (m.words.length : Int)
   . rw [decide_eq_true h']; rfl
   . rw [decide_eq_false h', decide_eq_true (show (1 : Int) > (m.words.length : Int) - (i : Int) by omega)]; rfl
theorem zvg {m : MemMemory} {i : Nat} (hm : m.words.length <= 100000) (hi : i <= 100000) : zxy (some m) (i : Int) = some (if i < m.words.length then (zx m.words i, 0) else (0, 51)) := by
 obtain ⟨k1, k2⟩ := zw (zHF hm hi)
 have k1' : zfp (some m) (i : Int) 1 = _ := k1
 have k2' : zgf (some m) (i : Int) 1 = true := k2
 unfold zxy zs4
 rw [k1', k2', cnT]
 by_cases h : i < m.words.length
 . rw [if_pos h, if_pos h]
   have h0 : (some m).getD default = m := rfl
   rw [h0, zm h]; rfl
 . rw [if_neg h, if_neg h]; rfl
noncomputable def unl (a b : List Int) (i : Nat) : Bool := !(decide (i < a.length) && decide (i < b.length) && (zx a i == zx b i)) && !(!(decide (i < a.length)) && !(decide (i < b.length)))
noncomputable def tl (c : Config) (a b : List Int) : Nat -> List Owner
 | 0 => []
 | i + 1 => cond (unl a b i) (if own c i ∈ tl c a b i then tl c a b i else tl c a b i ++ [own c i]) (tl c a b i)
theorem zkH {c : Config} (hc : zbu c) (hv : zaL c = true) : zan c /\ zpX c := by
 have hv' := hv
 simp only [zaL, Bool.and_eq_true] at hv'
 have g := zeY hc hv'.1
 exact ⟨g, zhY g hv'.2⟩
end Go.Proofs.YtgfifnadfmaolaaGreatDoor
end
