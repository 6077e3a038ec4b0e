import Derived.Test.YtganhedldgbfpaaGreatDoorDA
set_option linter.unusedVariables false
set_option linter.unusedSimpArgs false
set_option linter.unusedSectionVars false
noncomputable section
open Go.IntKind (i64 u32)
namespace Go.Proofs.YtganhedldgbfpaaGreatDoor
open Go.RowKit
def zaQ (h n : Nat) (hd g : Nat -> Int) (i : Nat) : Int := if i < h then hd i else if i - h < n then g (i - h) else 0
def hd2 (n : Nat) (i : Nat) : Int := if i = 0 then 1 else (n : Int)
def hd3 (n : Nat) (i : Nat) : Int := if i = 2 then (n : Int) else 1
theorem zzR {K : Nat} {q : Nat -> Bool} (h : ∀ i, i < K -> q i = false) : ((List.range K).any q) = false := any_f.2 h
theorem zjF {h W n : Nat} (h2 : h = 2 ∨ h = 3) (hn : 1 <= n) (hnW : n <= W) (hd g : Nat -> Int) (e0 : hd 0 = 1) (e1 : h = 3 -> hd 1 <= 1) (e2 : hd (h - 1) = (n : Int)) : zaT (zaQ h n hd g) h W = true := by
 have l0 : zaQ h n hd g 0 = 1 := by unfold zaQ; rw [if_pos (by omega)]; exact e0
 have l2 : zaQ h n hd g (h - 1) = (n : Int) := by unfold zaQ; rw [if_pos (by omega)]; exact e2
 have lz : ∀ i, h + n <= i -> zaQ h n hd g i = 0 := fun i hi => by unfold zaQ; rw [if_neg (by omega), if_neg (by omega)]
 have hm : zcw (zaQ h n hd g) h W = true := by
  unfold zcw
  rw [l2, decide_eq_true (show (1 : Int) <= (n : Int) by omega), decide_eq_true (show (n : Int) <= (W : Int) by omega), tnC, zzR fun i hi => ?_]
  . rfl
  . rw [lz _ (by omega)]; rfl
 unfold zaT
 rw [hm, l0]
 rcases h2 with rfl | rfl
 . simp
 . have : zaQ 3 n hd g 1 <= 1 := by
    have := e1 rfl
    unfold zaQ; rw [if_pos (by omega)]; exact this
   simp [this]
theorem zjG {f : Nat -> Int} {h W : Nat} (hz : ∀ i, i < h + W -> f i = 0) : zaT f h W = true := by
 unfold zaT
 rw [zzR fun i hi => by rw [hz i hi]; rfl]
 rfl
theorem zbY {f g : Nat -> Int} {h W : Nat} (h2 : h = 2 ∨ h = 3) (he : ∀ i, i < h + W -> f i = g i) : zaT f h W = zaT g h W := by
 have e1 : ((List.range (h + W)).any fun i => !(f i == 0)) = ((List.range (h + W)).any fun i => !(g i == 0)) := zlp fun i hi => by rw [he i hi]
 have e2 : zcw f h W = zcw g h W := by
  unfold zcw
  rw [he (h - 1) (by omega)]
  by_cases c : g (h - 1) <= (W : Int)
  . congr 2
    refine zlp fun i hi => ?_
    rw [he _ (by omega)]
  . rw [decide_eq_false c, Bool.and_false, Bool.false_and, Bool.false_and]
 unfold zaT
 rw [e1, e2, he 0 (by omega)]
 by_cases h3 : h = 3
 . rw [he 1 (by omega)]
 . have : (h == 3) = false := by simpa using h3
   simp [this]
theorem mkTn {x : Nat} (h1 : x <= 100000) {b : Nat} (hb : b <= 104) : (decide ((x : Int) = (x : Int)) && decide (0 <= (x : Int)) && leB ((x : Int).toNat * b) 140737488355328) = true := mkT (Int.natCast_nonneg x) (by omega) hb
theorem zAT {x : Nat} (h1 : x <= 100000) {b : Nat} (hb : b <= 104) : (decide True && decide (0 <= (x : Int)) && leB (x * b) 140737488355328) = true := by
 have := zKd (Int.natCast_nonneg x) (show (x : Int) <= 100000 by omega) hb
 rwa [tnC] at this
theorem zPm {W n : Nat} (hW : W <= 16) (hnW : n <= W) (g : Nat -> Int) : zbP (List.set (List.set (List.replicate (2 + W) (0 : Int)) 0 1) 1 (u32.wrap (n : Int))) 2 (List.take (2 + W - 2) (mk n g)) = mk (2 + W) (zaQ 2 n (hd2 n) g) := by
 rw [zdO (by omega) (by omega), zqA, zfV (by omega), zfV (by omega), List.take_of_length_le (by rw [zB]; omega), ziw (by omega)]
 refine zd1 fun i hi => ?_
 unfold zaQ hd2
 by_cases h2 : i < 2
 . rw [if_pos h2, if_neg (by omega)]
   by_cases h0 : i = 0
   . subst h0; rfl
   . obtain rfl : i = 1 := by omega
     rfl
 . rw [if_neg h2]
   by_cases hn : i - 2 < n
   . rw [if_pos hn, if_pos (by omega)]
   . rw [if_neg hn, if_neg (by omega), if_neg (by omega), if_neg (by omega)]
theorem zPn {W n : Nat} (hW : W <= 16) (hnW : n <= W) (g : Nat -> Int) : zbP (List.set (List.set (List.set (List.replicate (3 + W) (0 : Int)) 0 1) 1 1) 2 (u32.wrap (n : Int))) 3 (List.take (3 + W - 3) (mk n g)) = mk (3 + W) (zaQ 3 n (hd3 n) g) := by
 rw [zdO (by omega) (by omega), zqA, zfV (by omega), zfV (by omega), zfV (by omega), List.take_of_length_le (by rw [zB]; omega), ziw (by omega)]
 refine zd1 fun i hi => ?_
 unfold zaQ hd3
 by_cases h2 : i < 3
 . rw [if_pos h2, if_neg (by omega)]
   by_cases h0 : i = 2
   . subst h0; rfl
   . rw [if_neg h0, if_neg h0]
     by_cases h1 : i = 1
     . rw [if_pos h1]
     . rw [if_neg h1, if_pos (by omega)]
 . rw [if_neg h2]
   by_cases hn : i - 3 < n
   . rw [if_pos hn, if_pos (by omega)]
   . rw [if_neg hn, if_neg (by omega), if_neg (by omega), if_neg (by omega), if_neg (by omega)]
section
variable {F : Nat} {f : Nat -> Int} (hf : U32 f) (hF : F <= 1024) {a W : Nat} (h1 : 1 <= W) (hW : W <= 16)
include hf hF h1 hW
theorem zBP (ha : a + (2 + W) <= 16 * F) {n : Nat} (hn : 1 <= n) (hnW : n <= W) (g : Nat -> Int) (hok : zaT (fun i => f (a + i)) 2 W = true) : zrv (a : Int) (W : Int) (mk n g) (mk (16 * F) f) = some (0, ⟨mk (16 * F) (over f a (2 + W) (zaQ 2 n (hd2 n) g))⟩) := by
 have e : i64.wrap (2 + (W : Int)) = ((2 + W : Nat) : Int) := zr _ _ (by omega) (by omega)
 obtain ⟨k1, k2⟩ := zk (znS hf (n := 2 + W) hF ha)
 have k1' : zg4 (some ⟨mk (16 * F) f⟩) (a : Int) ((2 + W : Nat) : Int) = 0 := k1
 have k2' : zge (some ⟨mk (16 * F) f⟩) (a : Int) ((2 + W : Nat) : Int) = true := k2
 obtain ⟨m1, m2⟩ := zk (zix hf (by omega) (.inl rfl) hW ha)
 have m1' : za4 (some ⟨mk (16 * F) f⟩) (a : Int) (W : Int) 2 = _ := m1
 have m2' : zcA (some ⟨mk (16 * F) f⟩) (a : Int) (W : Int) 2 = true := m2
 rw [hok] at m1'
 obtain ⟨l1, l2⟩ := zk (zAD (f := f) (show 16 * F <= 100000 by omega) ha (zaQ 2 n (hd2 n) g))
 have l1' : zg3 (a : Int) (mk (2 + W) (zaQ 2 n (hd2 n) g)) (mk (16 * F) f) = _ := l1
 have l2' : zgd (a : Int) (mk (2 + W) (zaQ 2 n (hd2 n) g)) (mk (16 * F) f) = true := l2
 unfold zrv zmh
 rw [ztP hf _ h1 hW, e, k1', k2', m1', m2', zB]
 simp only [tnC, List.length_set, List.length_replicate, zPm hW hnW g, l1', l2']
 rw [decide_eq_false (show ¬ (n : Int) < 1 by omega), decide_eq_false (show ¬ (n : Int) > (W : Int) by omega), zAT (x := 2 + W) (by omega) (by decide), zbf (x := 0) (Int.le_refl _) (by omega), zbf (x := 1) (by decide) (by omega), inS_iff.2 (show 0 <= (2 : Int) /\ (2 : Int) <= ((2 + W : Nat) : Int) /\ ((2 + W : Nat) : Int) <= ((2 + W : Nat) : Int) from ⟨by omega, by omega, by omega⟩)]
 rfl
end
section
variable {F : Nat} {f : Nat -> Int} {a W : Nat} (h1 : 1 <= W) (hW : W <= 16)
include h1 hW
theorem zDS {k : Nat} (hk : k <= 100) (ps : Nat -> Nat) (ha : a <= 100000) (hb : ∀ j, j < k -> ps j <= 100000) (h0 : ∀ i, i < k -> a + (2 + W) <= ps i ∨ ps i + (3 + W) <= a) (hd : ∀ i j, i < k -> j < i -> ps j + (3 + W) <= ps i ∨ ps i + (3 + W) <= ps j) :
 zrC (a : Int) (W : Int) (mk k fun j => (ps j : Int)) = some true := by
 have e1 : i64.wrap (i64.wrap ((a : Int) + 2) + (W : Int)) = ((a + 2 + W : Nat) : Int) := by
  have e0 : i64.wrap ((a : Int) + 2) = ((a + 2 : Nat) : Int) := zr _ _ (by omega) (by omega)
  rw [e0]; exact zr _ _ (by omega) (by omega)
 have e2 : i64.wrap (3 + (W : Int)) = ((3 + W : Nat) : Int) := zr _ _ (by omega) (by omega)
 have step : ∀ i, i < k -> zc0 (a : Int) (W : Int) (mk k fun j => (ps j : Int)) (.l0 (i : Int)) = zc0 (a : Int) (W : Int) (mk k fun j => (ps j : Int)) (.l0 ((i + 1 : Nat) : Int)) := fun i hi => by
  have hbi := hb i hi
  have e3 : i64.wrap ((ps i : Int) + ((3 + W : Nat) : Int)) = ((ps i + (3 + W) : Nat) : Int) := zr _ _ (by omega) (by omega)
  have e4 : ((mk k fun j => (ps j : Int)).take i).drop 0 = mk i fun j => (ps j : Int) := by rw [zbm (by omega), List.drop_zero]
  have inner := zz (n := i) (f := fun j (_ : Unit) => zc0 (a : Int) (W : Int) (mk k fun j => (ps j : Int)) (.l4 (ps i : Int) (i : Int) (mk i fun j => (ps j : Int)) (i : Int) (j : Int))) (S := fun _ => ()) (fun j hj => by
   have hbj := hb j (by omega)
   have e5 : i64.wrap ((ps j : Int) + ((3 + W : Nat) : Int)) = ((ps j + (3 + W) : Nat) : Int) := zr _ _ (by omega) (by omega)
   rw [zgK]
   simp only [zdz, zR hj, cnT, zB, zh hj, tnC, zaU hj, e2, e5, e3, zf j (by omega)]
   rcases hd i j hi hj with h | h
   . rw [decide_eq_false (show ¬ (ps i : Int) < ((ps j + (3 + W) : Nat) : Int) by omega)]; rfl
   . rw [decide_eq_false (show ¬ (ps j : Int) < ((ps i + (3 + W) : Nat) : Int) by omega)]
     cases decide ((ps i : Int) < ((ps j + (3 + W) : Nat) : Int)) <;> rfl)
  have last : zc0 (a : Int) (W : Int) (mk k fun j => (ps j : Int)) (.l4 (ps i : Int) (i : Int) (mk i fun j => (ps j : Int)) (i : Int) (i : Int)) = zc0 (a : Int) (W : Int) (mk k fun j => (ps j : Int)) (.l0 ((i + 1 : Nat) : Int)) := by
   rw [zgK]
   simp only [zdz, zS (Nat.le_refl i), cnF, zf i (by omega)]
  rw [zgK]
  simp only [zdz, zR hi, cnT, zB, zh hi, tnC, zaU hi, e1, e2, e3, zms (Nat.le_of_lt hi), e4]
  have go : zc0 (a : Int) (W : Int) (mk k fun j => (ps j : Int)) (.l4 (ps i : Int) (i : Int) (mk i fun j => (ps j : Int)) (i : Int) 0) = zc0 (a : Int) (W : Int) (mk k fun j => (ps j : Int)) (.l0 ((i + 1 : Nat) : Int)) := inner.trans last
  rw [go]
  rcases h0 i hi with h | h
  . rw [decide_eq_false (show ¬ (ps i : Int) < ((a + 2 + W : Nat) : Int) by omega)]; rfl
  . rw [decide_eq_false (show ¬ (a : Int) < ((ps i + (3 + W) : Nat) : Int) by omega)]
    cases decide ((ps i : Int) < ((a + 2 + W : Nat) : Int)) <;> rfl
 have all := zz (n := k) (f := fun i (_ : Unit) => zc0 (a : Int) (W : Int) (mk k fun j => (ps j : Int)) (.l0 (i : Int))) (S := fun _ => ()) step
 unfold zrC zjn
 refine (show zc0 (a : Int) (W : Int) (mk k fun j => (ps j : Int)) (.l0 0) = _ from all).trans ?_
 rw [zgK]
 simp only [zdz, zB, zS (Nat.le_refl k), cnF, id]
end
structure zzz (N a s p k : Nat) (ps : Nat -> Nat) : Prop where
 stage : a + s <= N
 port : ∀ j, j < k -> ps j + p <= N
 sp : ∀ i, i < k -> a + s <= ps i ∨ ps i + p <= a
 pp : ∀ i j, i < k -> j < i -> ps j + p <= ps i ∨ ps i + p <= ps j
def zkD (ps : Nat -> Nat) (j : Nat) (g : Nat -> Int) : Nat -> Int := over g (ps j + 1) 1 fun _ => 0
def zg0 (ps : Nat -> Nat) (W n : Nat) (m : Nat -> Int) (j : Nat) (g : Nat -> Int) : Nat -> Int := over g (ps j) (3 + W) (zaQ 3 n (hd3 n) m)
def stN (f : Nat -> Int) (h W : Nat) : Nat := (zc3 f h W).length
def zas (f : Nat -> Int) (op : Nat -> (Nat -> Int) -> Nat -> Int) : Nat -> Nat -> Int
 | 0 => f
 | j + 1 => op j (zas f op j)
section
variable {F : Nat} {f : Nat -> Int} (hf : U32 f) (hF : F <= 1024) {a W : Nat} (h1 : 1 <= W) (hW : W <= 16) {k : Nat} (hk1 : 1 <= k) (hk : k <= 4) {ps : Nat -> Nat} (hA : zzz (16 * F) a (2 + W) (3 + W) k ps)
include hf hF h1 hW hk1 hk hA
theorem zBQ (hp : ∀ j, j < k -> zaT (fun i => f (ps j + i)) 3 W = true) : zrA (some ⟨mk (16 * F) f⟩) (a : Int) (W : Int) (mk k fun j => (ps j : Int)) = some 0 := by
 have e2 : i64.wrap (2 + (W : Int)) = ((2 + W : Nat) : Int) := zr _ _ (by omega) (by omega)
 have e3 : i64.wrap (3 + (W : Int)) = ((3 + W : Nat) : Int) := zr _ _ (by omega) (by omega)
 have hst := hA.stage
 obtain ⟨k1, k2⟩ := zk (znS hf (n := 2 + W) hF hA.stage)
 have k1' : zg4 (some ⟨mk (16 * F) f⟩) (a : Int) ((2 + W : Nat) : Int) = 0 := k1
 have k2' : zge (some ⟨mk (16 * F) f⟩) (a : Int) ((2 + W : Nat) : Int) = true := k2
 obtain ⟨q1, q2⟩ := zk (zDS (a := a) h1 hW (k := k) (by omega) ps (by omega) (fun j hj => by have := hA.port j hj; omega) hA.sp hA.pp)
 have q1' : zwB (a : Int) (W : Int) (mk k fun j => (ps j : Int)) = true := q1
 have q2' : zr9 (a : Int) (W : Int) (mk k fun j => (ps j : Int)) = true := q2
 have l0 := zz (n := k) (f := fun i (_ : Unit) => zga (some ⟨mk (16 * F) f⟩) (a : Int) (W : Int) (mk k fun j => (ps j : Int)) (.l0 (i : Int))) (S := fun _ => ()) (fun i hi => by
  obtain ⟨m1, m2⟩ := zk (znS hf (n := 3 + W) hF (hA.port i hi))
  have m1' : zg4 (some ⟨mk (16 * F) f⟩) (ps i : Int) ((3 + W : Nat) : Int) = 0 := m1
  have m2' : zge (some ⟨mk (16 * F) f⟩) (ps i : Int) ((3 + W : Nat) : Int) = true := m2
  rw [zgJ]
  simp only [zdy, zB, zR hi, cnT, zh hi, tnC, zaU hi, e3, m1', m2', zf i (by omega)]
  rfl)
 have l4 := zz (n := k) (f := fun i (_ : Unit) => zga (some ⟨mk (16 * F) f⟩) (a : Int) (W : Int) (mk k fun j => (ps j : Int)) (.l4 (i : Int))) (S := fun _ => ()) (fun i hi => by
  obtain ⟨m1, m2⟩ := zk (zix hf (by omega) (.inr rfl) hW (hA.port i hi))
  have m1' : za4 (some ⟨mk (16 * F) f⟩) (ps i : Int) (W : Int) 3 = _ := m1
  have m2' : zcA (some ⟨mk (16 * F) f⟩) (ps i : Int) (W : Int) 3 = true := m2
  rw [hp i hi] at m1'
  rw [zgJ]
  simp only [zdy, zB, zR hi, cnT, zh hi, tnC, zaU hi, m1', m2', zf i (by omega)]
  rfl)
 unfold zrA zjk
 rw [ztP hf _ h1 hW, e2, k1', k2', zB, decide_eq_false (show ¬ (k : Int) < 1 by omega), decide_eq_false (show ¬ (k : Int) > 4 by omega)]
 show zga (some ⟨mk (16 * F) f⟩) (a : Int) (W : Int) (mk k fun j => (ps j : Int)) (.l0 0) = _
 refine (show zga (some ⟨mk (16 * F) f⟩) (a : Int) (W : Int) (mk k fun j => (ps j : Int)) (.l0 0) = _ from l0).trans ?_
 rw [zgJ]
 simp only [zdy, zB, zS (Nat.le_refl k), cnF, q1', q2', cnT, Bool.not_true]
 refine (show zga (some ⟨mk (16 * F) f⟩) (a : Int) (W : Int) (mk k fun j => (ps j : Int)) (.l4 0) = _ from l4).trans ?_
 rw [zgJ]
 simp only [zdy, zB, zS (Nat.le_refl k), cnF, id]
theorem zMh (hs : zaT (fun i => f (a + i)) 2 W = true) (hp : ∀ j, j < k -> zaT (fun i => f (ps j + i)) 3 W = true) :
 zrx (a : Int) (W : Int) (mk k fun j => (ps j : Int)) (mk (16 * F) f) = some (0, ⟨mk (16 * F) (if stN (fun i => f (a + i)) 2 W = 0 then zas f (zkD ps) k else over (zas f (zg0 ps W (stN (fun i => f (a + i)) 2 W) fun i => f (a + (2 + i))) k) a (2 + W) fun _ => 0)⟩) := by
 have hst := hA.stage
 obtain ⟨k1, k2⟩ := zk (zBQ hf hF h1 hW hk1 hk hA hp)
 have k1' : zt9 (some ⟨mk (16 * F) f⟩) (a : Int) (W : Int) (mk k fun j => (ps j : Int)) = 0 := k1
 have k2' : zr7 (some ⟨mk (16 * F) f⟩) (a : Int) (W : Int) (mk k fun j => (ps j : Int)) = true := k2
 obtain ⟨m1, m2⟩ := zk (zix hf (by omega) (.inl rfl) hW hA.stage)
 have m1' : za4 (some ⟨mk (16 * F) f⟩) (a : Int) (W : Int) 2 = _ := m1
 have m2' : zcA (some ⟨mk (16 * F) f⟩) (a : Int) (W : Int) 2 = true := m2
 rw [hs] at m1'
 have m1'' : za4 (some ⟨mk (16 * F) f⟩) (a : Int) (W : Int) 2 = (zc3 (fun i => f (a + i)) 2 W, 0) := m1'
 have e3 : i64.wrap (3 + (W : Int)) = ((3 + W : Nat) : Int) := zr _ _ (by omega) (by omega)
 have e2 : i64.wrap (2 + (W : Int)) = ((2 + W : Nat) : Int) := zr _ _ (by omega) (by omega)
 unfold zrx zjh
 simp only [k1', k2', m1'', m2', cnT, e3]
 show cond (((zc3 (fun i => f (a + i)) 2 W).length : Int) == 0) _ _ = _
 by_cases h0 : stN (fun i => f (a + i)) 2 W = 0
 . have hb : (((zc3 (fun i => f (a + i)) 2 W).length : Int) == 0) = true := by unfold stN at h0; rw [h0]; rfl
   have l0 := zz (n := k) (f := fun i (xs : List Int) => zhw (a : Int) (W : Int) (mk k fun j => (ps j : Int)) (mk (16 * F) f) (.l0 (i : Int) xs)) (S := fun i => mk (16 * F) (zas f (zkD ps) i)) (fun i hi => by
    have hpi := hA.port i hi
    obtain ⟨w1, w2⟩ := zk (zGY (N := 16 * F) (f := zas f (zkD ps) i) (a := ps i + 1) (by omega) (by omega) 0)
    have w1' : zBB ((ps i + 1 : Nat) : Int) 0 (mk (16 * F) (zas f (zkD ps) i)) = _ := w1
    have w2' : zxb ((ps i + 1 : Nat) : Int) 0 (mk (16 * F) (zas f (zkD ps) i)) = true := w2
    have e : i64.wrap ((ps i : Int) + 1) = ((ps i + 1 : Nat) : Int) := zf _ (by omega)
    rw [zgI]
    simp only [zdx, zB, zR hi, cnT, zh hi, tnC, zaU hi, e, w1', w2', zf i (by omega)]
    rfl)
   rw [hb, cnT, if_pos h0]
   refine (show zhw (a : Int) (W : Int) (mk k fun j => (ps j : Int)) (mk (16 * F) f) (.l0 0 (mk (16 * F) f)) = _ from l0).trans ?_
   rw [zgI]
   simp only [zdx, zB, zS (Nat.le_refl k), cnF, id]
 . have hb : (((zc3 (fun i => f (a + i)) 2 W).length : Int) == 0) = false := by
    unfold stN at h0
    cases hq : (((zc3 (fun i => f (a + i)) 2 W).length : Int) == 0) with
    | false => rfl
    | true => exact absurd (by simpa using hq) h0
   have hv : zc3 (fun i => f (a + i)) 2 W = mk (stN (fun i => f (a + i)) 2 W) (fun i => f (a + (2 + i))) /\ stN (fun i => f (a + i)) 2 W <= W := by
    unfold stN at h0 ⊢
    unfold zc3 at h0 ⊢
    cases c1 : (List.range (2 + W)).any fun i => !(f (a + i) == 0) with
    | false => rw [c1] at h0; exact absurd rfl h0
    | true =>
     rw [c1] at h0
     cases c2 : zoU (fun i => f (a + i)) 2 W with
     | false => rw [c2] at h0; exact absurd rfl h0
     | true =>
      simp only [cnT, zB]
      refine ⟨by first | rfl | trivial, ?_⟩
      unfold zoU at c2
      simp only [Bool.and_eq_true] at c2
      have c3 := c2.2
      unfold zcw at c3
      simp only [Bool.and_eq_true, decide_eq_true_eq] at c3
      omega
   have hlen : (zc3 (fun i => f (a + i)) 2 W).length = stN (fun i => f (a + i)) 2 W := rfl
   obtain ⟨hv1, hv2⟩ := hv
   generalize stN (fun i => f (a + i)) 2 W = n at *
   have hl3 := zPn hW hv2 fun i => f (a + (2 + i))
   have l4 := zz (n := k) (f := fun i (xs : List Int) => zhw (a : Int) (W : Int) (mk k fun j => (ps j : Int)) (mk (16 * F) f) (.l4 (i : Int) xs)) (S := fun i => mk (16 * F) (zas f (zg0 ps W n fun i => f (a + (2 + i))) i)) (fun i hi => by
    have hpi := hA.port i hi
    obtain ⟨w1, w2⟩ := zk (zAD (N := 16 * F) (f := zas f (zg0 ps W n fun i => f (a + (2 + i))) i) (a := ps i) (n := 3 + W) (by omega) hpi (zaQ 3 n (hd3 n) fun i => f (a + (2 + i))))
    have w1' : zg3 (ps i : Int) (mk (3 + W) (zaQ 3 n (hd3 n) fun i => f (a + (2 + i)))) (mk (16 * F) (zas f (zg0 ps W n fun i => f (a + (2 + i))) i)) = _ := w1
    have w2' : zgd (ps i : Int) (mk (3 + W) (zaQ 3 n (hd3 n) fun i => f (a + (2 + i)))) (mk (16 * F) (zas f (zg0 ps W n fun i => f (a + (2 + i))) i)) = true := w2
    rw [zgI]
    simp only [zdx, zB, zR hi, cnT, zh hi, tnC, zaU hi, e3, m1'', hv1, List.length_set, List.length_replicate, hl3, w1', w2', zf i (by omega)]
    rfl)
   obtain ⟨z1, z2⟩ := zk (zIK (N := 16 * F) (f := zas f (zg0 ps W n fun i => f (a + (2 + i))) k) (a := a) (n := 2 + W) (by omega) hA.stage 0)
   have z1' : zua (a : Int) ((2 + W : Nat) : Int) 0 (mk (16 * F) (zas f (zg0 ps W n fun i => f (a + (2 + i))) k)) = _ := z1
   have z2' : zr8 (a : Int) ((2 + W : Nat) : Int) 0 (mk (16 * F) (zas f (zg0 ps W n fun i => f (a + (2 + i))) k)) = true := z2
   rw [hb, cnF, if_neg h0]
   simp only [cnT, tnC, List.length_set, List.length_replicate]
   rw [zAT (x := 3 + W) (by omega) (by decide), zbf (x := 0) (Int.le_refl _) (by omega), zbf (x := 1) (by decide) (by omega), zbf (x := 2) (by decide) (by omega), inS_iff.2 (show 0 <= (3 : Int) /\ (3 : Int) <= ((3 + W : Nat) : Int) /\ ((3 + W : Nat) : Int) <= ((3 + W : Nat) : Int) from ⟨by omega, by omega, by omega⟩)]
   simp only [cnT]
   refine (show zhw (a : Int) (W : Int) (mk k fun j => (ps j : Int)) (mk (16 * F) f) (.l4 0 (mk (16 * F) f)) = _ from l4).trans ?_
   rw [zgI]
   simp only [zdx, zB, zS (Nat.le_refl k), cnF, e2, z1', z2', cnT, id]
end
def zbQ (W : Nat) (m : List Int) : Prop := 1 <= m.length /\ m.length <= W /\ ∀ j, 0 <= zN m j /\ zN m j < 4294967296
def zmH (f : Nat -> Int) (W D first i : Nat) : List Int := mk (f ((first + i) % D * (1 + W))).toNat fun j => f ((first + i) % D * (1 + W) + (1 + j))
def zjE (f : Nat -> Int) (W D first many : Nat) : List (List Int) := (List.range many).map (zmH f W D first)
theorem zf1 (f : Nat -> Int) (W D first many : Nat) : (zjE f W D first many).length = many := by simp [zjE]
theorem zy6 (f : Nat -> Int) (W D first many : Nat) : zjE f W D first (many + 1) = zjE f W D first many ++ [zmH f W D first many] := by simp [zjE, List.range_succ]
theorem zqI {f : Nat -> Int} {W D first : Nat} {many : Int} (h : zgR f W D first many = true) {i : Nat} (hi : i < D) : okQ f W D first many i = true := by
 unfold zgR at h
 rw [Bool.not_eq_true', any_f] at h
 have := h i hi
 cases hq : okQ f W D first many i with
 | true => rfl
 | false => rw [hq] at this; exact absurd this (by decide)
theorem zqJ {f : Nat -> Int} {W D first : Nat} {many : Int} (h : ∀ i, i < D -> okQ f W D first many i = true) : zgR f W D first many = true := by
 unfold zgR
 rw [Bool.not_eq_true', any_f]
 intro i hi
 rw [h i hi]; rfl
theorem okQ_iff {f : Nat -> Int} {W D first : Nat} {many : Int} {i : Nat} : okQ f W D first many i = true ↔ (f ((first + i) % D * (1 + W)) <= (W : Int) /\ (∀ j, j < W - (f ((first + i) % D * (1 + W))).toNat -> f ((first + i) % D * (1 + W) + (1 + (f ((first + i) % D * (1 + W))).toNat + j)) = 0)) /\ ((i : Int) < many ↔ f ((first + i) % D * (1 + W)) > 0) := by
 unfold okQ zoc
 rw [Bool.and_eq_true, Bool.and_eq_true, decide_eq_true_eq, Bool.not_eq_true', any_f, beq_iff_eq, decide_eq_decide]
 constructor
 . rintro ⟨⟨h1, h2⟩, h3⟩
   refine ⟨⟨h1, fun j hj => ?_⟩, h3⟩
   have := h2 j hj
   simpa using this
 . rintro ⟨⟨h1, h2⟩, h3⟩
   refine ⟨⟨h1, fun j hj => ?_⟩, h3⟩
   have := h2 j hj
   simpa using this
theorem zAW {f : Nat -> Int} (hf : U32 f) {W D first many : Nat} (hm : many <= D) (h : zgR f W D first (many : Int) = true) {i : Nat} (hi : i < many) : zbQ W (zmH f W D first i) := by
 obtain ⟨⟨h1, _⟩, h3⟩ := okQ_iff.1 (zqI h (show i < D by omega))
 have h4 := h3.1 (by omega)
 refine ⟨by unfold zmH; rw [zB]; omega, by unfold zmH; rw [zB]; omega, fun j => ?_⟩
 unfold zmH
 by_cases hj : j < (f ((first + i) % D * (1 + W))).toNat
 . rw [zaU hj]; exact hf _
 . rw [zKe (by omega)]; omega
theorem zwq {f : Nat -> Int} (hf : U32 f) {W D first many : Nat} (hm : many <= D) (h : zgR f W D first (many : Int) = true) : ∀ m ∈ zjE f W D first many, zbQ W m := fun m hmem => by
 unfold zjE at hmem
 obtain ⟨i, hi, rfl⟩ := List.mem_map.1 hmem
 exact zAW hf hm h (List.mem_range.1 hi)
section
variable {f : Nat -> Int} (hf : U32 f) {W D : Nat} (hW : W <= 16) (hD1 : 1 <= D) (hD : D <= 8)
include hf hW hD1 hD
theorem zBr {first : Nat} (hfi : first < D) {many : Nat} (hm : many <= D) (hr : zgR f W D first (many : Int) = true) : zq9 ⟨(W : Int), (D : Int)⟩ (mk (D * (1 + W)) f) (first : Int) (many : Int) = some (zjE f W D first many, true) := by
 have eW : zig ⟨(W : Int), (D : Int)⟩ = ((1 + W : Nat) : Int) := by
  show i64.wrap (1 + (W : Int)) = _
  exact zr _ _ (by omega) (by omega)
 have dD : decide ((D : Int) = 0) = false := decide_eq_false (by omega)
 have ef : i64.wrap (first : Int) = (first : Int) := zaO _ (by omega) (by omega)
 have em : i64.wrap (many : Int) = (many : Int) := zaO _ (by omega) (by omega)
 have eD : u32.wrap (D : Int) = (D : Int) := zdO (by omega) (by omega)
 have e9 : ∀ (i : Nat) (x2 : List Int) (x3 : Int) (x4 : Bool) (x5 : Int) (x6 x7 : Bool) (xs : List (List Int)), i <= 100 -> zf8 ⟨(W : Int), (D : Int)⟩ (mk (D * (1 + W)) f) (first : Int) (many : Int) (.l27 (i : Int) x2 x3 x4 x5 x6 x7 xs) = zf8 ⟨(W : Int), (D : Int)⟩ (mk (D * (1 + W)) f) (first : Int) (many : Int) (.l0 ((i + 1 : Nat) : Int) xs) := fun i x2 x3 x4 x5 x6 x7 xs hi => by
  rw [zjL]
  simp only [zdX, zf i (show i < 4611686018427387904 by omega)]
 have l0 := zz (n := D) (f := fun i (xs : List (List Int)) => zf8 ⟨(W : Int), (D : Int)⟩ (mk (D * (1 + W)) f) (first : Int) (many : Int) (.l0 (i : Int) xs)) (S := fun i => zjE f W D first (min i many)) (fun i hi => by
  obtain ⟨⟨g1, g2⟩, g3⟩ := okQ_iff.1 (zqI hr hi)
  have hpl := zBg hf hW hD1 hD (first := first) (i := i)
  have e1 : i64.wrap ((first : Int) + (i : Int)) = ((first + i : Nat) : Int) := zr _ _ (by omega) (by omega)
  have e2 : i64.wrap ((((first + i) % D : Nat) : Int) * ((1 + W : Nat) : Int)) = (((first + i) % D * (1 + W) : Nat) : Int) := zr _ _ (Int.natCast_mul _ _).symm (by omega)
  have e4 : i64.wrap ((((first + i) % D : Nat) : Int) + 1) = (((first + i) % D + 1 : Nat) : Int) := zf _ (by have := Nat.mod_lt (first + i) (show D > 0 by omega); omega)
  have e5 : i64.wrap ((((first + i) % D + 1 : Nat) : Int) * ((1 + W : Nat) : Int)) = (((first + i) % D * (1 + W) + (1 + W) : Nat) : Int) := zr _ _ (by rw [← Int.natCast_mul, Nat.add_mul, Nat.one_mul]) (by omega)
  have hms : zmH f W D first i = mk (f ((first + i) % D * (1 + W))).toNat fun j => f ((first + i) % D * (1 + W) + (1 + j)) := rfl
  generalize hp : (first + i) % D * (1 + W) = p at *
  have e6 : ((mk (D * (1 + W)) f).take (p + (1 + W))).drop p = mk (1 + W) fun j => f (p + j) := by rw [zbm (by omega), zcf, Nat.add_sub_cancel_left]
  obtain ⟨k1, k2⟩ := zk (zyU (hf.sh p) hW)
  have hq : zoc (fun j => f (p + j)) W = true := by
   unfold zoc
   rw [Bool.and_eq_true, decide_eq_true_eq, Bool.not_eq_true', any_f]
   refine ⟨g1, fun j hj => ?_⟩
   have : f (p + (1 + (f p).toNat + j)) = 0 := g2 j hj
   show (!(f (p + (1 + (f p).toNat + j)) == 0)) = false
   rw [this]; rfl
  rw [hq] at k1
  have k1' : zt6 (mk (1 + W) fun j => f (p + j)) = (mk (f p).toNat (fun j => f (p + (1 + j))), true) := k1
  have k2' : zrU (mk (1 + W) fun j => f (p + j)) = true := k2
  have h0 := (hf p).1
  have hlen : decide (((f p).toNat : Int) > 0) = decide ((i : Int) < (many : Int)) := by
   rw [show (((f p).toNat : Nat) : Int) = f p by omega, decide_eq_decide]; exact g3.symm
  rw [zjL]
  simp only [zdX, zR hi, dD, cnT, cnF, ef, em, e1, zAh, eW, e2, e4, e5, tnC, e6, k1', k2', zB, inS_iff.2 (show 0 <= (p : Int) /\ (p : Int) <= ((p + (1 + W) : Nat) : Int) /\ ((p + (1 + W) : Nat) : Int) <= ((D * (1 + W) : Nat) : Int) from ⟨by omega, by omega, by omega⟩), hlen, beq_self_eq_true, Bool.not_true, e9 i _ _ _ _ _ _ _ (show i <= 100 by omega)]
  by_cases hm2 : i < many
  . rw [decide_eq_true (show (i : Int) < (many : Int) by omega), cnT, List.length_singleton, zf1, zbc (show (min i many + 1) * 24 <= 140737488355328 by omega), cnT, ← hms, Nat.min_eq_left (show i <= many by omega), Nat.min_eq_left (show i + 1 <= many by omega), zy6]
  . rw [decide_eq_false (show ¬ (i : Int) < (many : Int) by omega), cnF, Nat.min_eq_right (show many <= i by omega), Nat.min_eq_right (show many <= i + 1 by omega)])
 unfold zq9 zi3
 show cond (decide ((many : Int) > u32.wrap (D : Int))) _ (cond (decide ((first : Int) >= u32.wrap (D : Int))) _ _) = _
 rw [eD, decide_eq_false (show ¬ (many : Int) > (D : Int) by omega), cnF, decide_eq_false (show ¬ (first : Int) >= (D : Int) by omega), cnF]
 have e0 : zjE f W D first (min 0 many) = [] := by rw [Nat.zero_min]; rfl
 have l0' : zf8 ⟨(W : Int), (D : Int)⟩ (mk (D * (1 + W)) f) (first : Int) (many : Int) (.l0 0 []) = zf8 ⟨(W : Int), (D : Int)⟩ (mk (D * (1 + W)) f) (first : Int) (many : Int) (.l0 (D : Int) (zjE f W D first (min D many))) := by
  have h := l0
  simp only [e0] at h
  exact h
 rw [l0', zjL]
 simp only [zdX, zS (Nat.le_refl _), cnF, id, Nat.min_eq_right hm]
end
def zdc (h D W first : Nat) (hd : Nat -> Int) (ms : List (List Int)) : Nat -> Nat -> Int
 | 0 => fun j => if j < h then hd j else 0
 | i + 1 => over (over (zdc h D W first hd ms i) (h + (first + i) % D * (1 + W)) 1 fun _ => ((zak ms i).length : Int)) (h + (first + i) % D * (1 + W) + 1) (zak ms i).length (zN (zak ms i))
theorem zhF {ms : List (List Int)} {i : Nat} (h : i < ms.length) : zak ms i ∈ ms := by
 have : zak ms i = ms[i] := by simp [zak, List.getD, h]
 rw [this]; exact List.getElem_mem h
theorem ziN {h D W first : Nat} {hd : Nat -> Int} {ms : List (List Int)} (i : Nat) {j : Nat} (hj : j < h) : zdc h D W first hd ms i j = hd j := by
 induction i with
 | zero => show (if j < h then hd j else 0) = _; rw [if_pos hj]
 | succ i ih =>
  show over (over _ _ _ _) _ _ _ j = _
  rw [zaD (by omega), zaD (by omega), ih]
theorem zFG {D first i t : Nat} (hi : i < D) (ht : t < D) (h : (first + i) % D = (first + t) % D) : i = t := by
 have h1 := Nat.div_add_mod (first + i) D
 have h2 := Nat.div_add_mod (first + t) D
 rw [h] at h1
 rcases Nat.lt_trichotomy ((first + i) / D) ((first + t) / D) with h3 | h3 | h3
 . have h4 : D * ((first + i) / D + 1) <= D * ((first + t) / D) := Nat.mul_le_mul_left D h3
   rw [Nat.mul_add, Nat.mul_one] at h4
   omega
 . rw [h3] at h1; omega
 . have h4 : D * ((first + t) / D + 1) <= D * ((first + i) / D) := Nat.mul_le_mul_left D h3
   rw [Nat.mul_add, Nat.mul_one] at h4
   omega
theorem zBh {q q' W : Nat} (h : q ≠ q') : q * (1 + W) + (1 + W) <= q' * (1 + W) ∨ q' * (1 + W) + (1 + W) <= q * (1 + W) := by
 rcases Nat.lt_or_gt_of_ne h with h1 | h1
 . left
   have := Nat.mul_le_mul_right (1 + W) h1
   rw [Nat.succ_mul] at this
   exact this
 . right
   have := Nat.mul_le_mul_right (1 + W) h1
   rw [Nat.succ_mul] at this
   exact this
section
variable {h D W first : Nat} {hd : Nat -> Int} {ms : List (List Int)}
theorem zqr (hms : ∀ m ∈ ms, zbQ W m) (hl : ms.length <= D) (i : Nat) (hi : i <= ms.length) {t : Nat} (ht : t < D) {j : Nat} (hj : j < 1 + W) :
 zdc h D W first hd ms i (h + ((first + t) % D * (1 + W) + j)) = if t < i then (if j = 0 then ((zak ms t).length : Int) else if j - 1 < (zak ms t).length then zN (zak ms t) (j - 1) else 0) else 0 := by
 induction i with
 | zero =>
  rw [if_neg (by omega)]
  show (if h + ((first + t) % D * (1 + W) + j) < h then _ else _) = _
  rw [if_neg (by omega)]
 | succ i ih =>
  have hm := hms _ (zhF (show i < ms.length by omega))
  have ih := ih (by omega)
  show over (over _ _ _ _) _ _ _ _ = _
  by_cases hti : t = i
  . subst hti
    rw [if_pos (by omega)]
    by_cases h0 : j = 0
    . subst h0
      rw [zaD (by omega), if_pos rfl]
      exact zdf (show 0 < 1 by omega)
    . rw [if_neg h0]
      by_cases h1 : j - 1 < (zak ms t).length
      . rw [if_pos h1, show h + ((first + t) % D * (1 + W) + j) = h + (first + t) % D * (1 + W) + 1 + (j - 1) by omega, zdf h1]
      . rw [if_neg h1, zaD (by omega), zaD (by omega), ih, if_neg (by omega)]
  . have hne : (first + t) % D ≠ (first + i) % D := fun e => hti (zFG ht (by omega) e)
    have hpl := zBh (W := W) hne
    obtain ⟨m1, m2, _⟩ := hm
    rw [zaD (by omega), zaD (by omega), ih]
    by_cases c : t < i
    . rw [if_pos c, if_pos (show t < i + 1 by omega)]
    . rw [if_neg c, if_neg (show ¬ t < i + 1 by omega)]
theorem zAi (hhd : ∀ j, j < h -> 0 <= hd j /\ hd j < 4294967296) (hW : W <= 16) (hms : ∀ m ∈ ms, zbQ W m) (i : Nat) (hi : i <= ms.length) : U32 (zdc h D W first hd ms i) := by
 induction i with
 | zero =>
  intro j
  show 0 <= (if j < h then hd j else 0) /\ _
  by_cases hj : j < h
  . have := hhd j hj
    simp only [zdc, if_pos hj]; exact this
  . simp only [zdc, if_neg hj]; omega
 | succ i ih =>
  obtain ⟨m1, m2, m3⟩ := hms _ (zhF (show i < ms.length by omega))
  refine zcX (zcX (ih (by omega)) fun j hj => ?_) fun j hj => m3 j
  constructor <;> omega
theorem zv3 (hms : ∀ m ∈ ms, zbQ W m) (hl : ms.length <= D) : zgR (fun j => zdc h D W first hd ms ms.length (h + j)) W D first (ms.length : Int) = true := by
 refine zqJ fun i hi => okQ_iff.2 ?_
 have a0 := zqr (h := h) (first := first) (hd := hd) hms hl ms.length (Nat.le_refl _) hi (show 0 < 1 + W by omega)
 rw [Nat.add_zero] at a0
 rw [if_pos rfl] at a0
 simp only [a0]
 by_cases c : i < ms.length
 . obtain ⟨m1, m2, _⟩ := hms _ (zhF c)
   rw [if_pos c]
   refine ⟨⟨by omega, fun j hj => ?_⟩, by omega⟩
   rw [tnC] at hj ⊢
   rw [zqr hms hl ms.length (Nat.le_refl _) hi (show 1 + (zak ms i).length + j < 1 + W by omega), if_pos c, if_neg (by omega), if_neg (by omega)]
 . rw [if_neg c]
   refine ⟨⟨by omega, fun j hj => ?_⟩, by omega⟩
   rw [show (0 : Int).toNat = 0 from rfl] at hj ⊢
   rw [zqr hms hl ms.length (Nat.le_refl _) hi (show 1 + 0 + j < 1 + W by omega), if_neg c]
end
section
variable {f : Nat -> Int} (hf : U32 f) {W D : Nat} (hW1 : 1 <= W) (hW : W <= 16) (hD1 : 1 <= D) (hD : D <= 8) {N a : Nat} (hN : N <= 100000)
include hf hW1 hW hD1 hD hN
theorem zAC {h first : Nat} (hh : h <= 3) (hfi : first < D) {lost : Int} {ms : List (List Int)} (hms : ∀ m ∈ ms, zbQ W m) (hl : ms.length <= D) (hd : Nat -> Int) (ha : a + (h + D * (1 + W)) <= N) :
 zqW ⟨(W : Int), (D : Int)⟩ (a : Int) ⟨(first : Int), lost, ms⟩ (mk h hd) (mk N f) = some ⟨mk N (over f a (h + D * (1 + W)) (zdc h D W first hd ms ms.length))⟩ := by
 obtain ⟨d1, d2⟩ := dw hf hW1 hW hD1 hD hN
 have eW : zig ⟨(W : Int), (D : Int)⟩ = ((1 + W : Nat) : Int) := by
  show i64.wrap (1 + (W : Int)) = _
  exact zr _ _ (by omega) (by omega)
 have dD : decide ((D : Int) = 0) = false := decide_eq_false (by omega)
 have ef : i64.wrap (first : Int) = (first : Int) := zaO _ (by omega) (by omega)
 have eA := zzQ hf hW1 hW hD1 hD hN h hh
 generalize hK : h + D * (1 + W) = K at *
 have e0 : zbP (List.replicate K (0 : Int)) 0 (List.take K (mk h hd)) = mk K (zdc h D W first hd ms 0) := by
  rw [List.take_of_length_le (by rw [zB]; omega), zqA, ziw (by omega)]
  refine zd1 fun i hi => ?_
  show _ = if i < h then hd i else 0
  by_cases c : i < h
  . rw [if_pos c, if_pos (by omega)]; rfl
  . rw [if_neg c, if_neg (by omega)]
 have l0 := zz (n := ms.length) (f := fun i (xs : List Int) => zm5 ⟨(W : Int), (D : Int)⟩ (a : Int) ⟨(first : Int), lost, ms⟩ (mk h hd) (mk N f) (.l0 (i : Int) xs)) (S := fun i => mk K (zdc h D W first hd ms i)) (fun i hi => by
  obtain ⟨m1, m2, m3⟩ := hms _ (zhF hi)
  have hpl := zBg hf hW hD1 hD (first := first) (i := i)
  have e1 : i64.wrap ((first : Int) + (i : Int)) = ((first + i : Nat) : Int) := zr _ _ (by omega) (by omega)
  have e2 : i64.wrap ((((first + i) % D : Nat) : Int) * ((1 + W : Nat) : Int)) = (((first + i) % D * (1 + W) : Nat) : Int) := zr _ _ (Int.natCast_mul _ _).symm (by omega)
  have e3 : i64.wrap ((h : Int) + (((first + i) % D * (1 + W) : Nat) : Int)) = ((h + (first + i) % D * (1 + W) : Nat) : Int) := zr _ _ (by omega) (by omega)
  have e4 : i64.wrap (((h + (first + i) % D * (1 + W) : Nat) : Int) + 1) = ((h + (first + i) % D * (1 + W) + 1 : Nat) : Int) := zf _ (by omega)
  have e5 : u32.wrap (((zak ms i).length : Nat) : Int) = ((zak ms i).length : Int) := zdO (by omega) (by omega)
  have hes : zdc h D W first hd ms (i + 1) = over (over (zdc h D W first hd ms i) (h + (first + i) % D * (1 + W)) 1 fun _ => ((zak ms i).length : Int)) (h + (first + i) % D * (1 + W) + 1) (zak ms i).length (zN (zak ms i)) := rfl
  generalize hp : (first + i) % D * (1 + W) = p at *
  have e6 : List.set (mk K (zdc h D W first hd ms i)) (h + p) ((zak ms i).length : Int) = mk K (over (zdc h D W first hd ms i) (h + p) 1 fun _ => ((zak ms i).length : Int)) := by
   rw [zfV (by omega)]
   refine zd1 fun j hj => ?_
   unfold over
   by_cases c : j = h + p
   . rw [if_pos c, if_pos (by omega)]
   . rw [if_neg c, if_neg (by omega)]
  have e7 : zbP (mk K (over (zdc h D W first hd ms i) (h + p) 1 fun _ => ((zak ms i).length : Int))) (h + p + 1) (List.take (K - (h + p + 1)) (zak ms i)) = mk K (zdc h D W first hd ms (i + 1)) := by
   rw [List.take_of_length_le (by omega), show zbP (mk K (over (zdc h D W first hd ms i) (h + p) 1 fun _ => ((zak ms i).length : Int))) (h + p + 1) (zak ms i) = zbP (mk K (over (zdc h D W first hd ms i) (h + p) 1 fun _ => ((zak ms i).length : Int))) (h + p + 1) (mk (zak ms i).length (zN (zak ms i))) from congrArg _ (zAV rfl), ziw (by omega), hes]
   rfl
  rw [zpD]
  simp only [zeN, zR hi, cnT, zh hi, tnC, dD, cnF, ef, e1, zAh, eW, e2, zB, e3, e4, e5, zh (show h + p < K by omega), List.length_set, inS_iff.2 (show 0 <= ((h + p + 1 : Nat) : Int) /\ ((h + p + 1 : Nat) : Int) <= ((K : Nat) : Int) /\ ((K : Nat) : Int) <= ((K : Nat) : Int) from ⟨by omega, by omega, by omega⟩), e6, e7, zf i (show i < 4611686018427387904 by omega)])
 obtain ⟨w1, w2⟩ := zk (zAD (f := f) hN ha (zdc h D W first hd ms ms.length))
 have w1' : zg3 (a : Int) (mk K (zdc h D W first hd ms ms.length)) (mk N f) = _ := w1
 have w2' : zgd (a : Int) (mk K (zdc h D W first hd ms ms.length)) (mk N f) = true := w2
 unfold zqW ziS
 simp only [zB, eA, tnC, List.length_replicate, e0]
 rw [zAT (x := K) (by omega) (by decide), cnT]
 refine (show zm5 ⟨(W : Int), (D : Int)⟩ (a : Int) ⟨(first : Int), lost, ms⟩ (mk h hd) (mk N f) (.l0 0 (mk K (zdc h D W first hd ms 0))) = _ from l0).trans ?_
 rw [zpD]
 simp only [zeN, zS (Nat.le_refl _), cnF, w1', w2', cnT, id]
end
def zgj (D W : Nat) (ms : List (List Int)) : Nat -> Int := zdc 1 D W 0 (fun _ => (ms.length : Int)) ms ms.length
def zbe (first : Nat) (ms : List (List Int)) : Nat := if ms.length = 0 then 0 else first
def zqE (first : Nat) (lost : Int) (ms : List (List Int)) (j : Nat) : Int := if j = 0 then (zbe first ms : Int) else if j = 1 then (ms.length : Int) else lost
def zg1 (D W first : Nat) (lost : Int) (ms : List (List Int)) : Nat -> Int := zdc 3 D W (zbe first ms) (zqE first lost ms) ms ms.length
section
variable {D W : Nat} {ms : List (List Int)} (hms : ∀ m ∈ ms, zbQ W m) (hl : ms.length <= D)
include hms hl
theorem zBU : zgj D W ms 0 = (ms.length : Int) := ziN _ (by decide)
theorem zqb : zhn (zgj D W ms) W D = true := by
 unfold zhn
 rw [zBU hms hl, decide_eq_true (show (ms.length : Int) <= (D : Int) by omega), Bool.true_and]
 exact zv3 hms hl
theorem zuB (hD : D <= 8) (hW : W <= 16) : U32 (zgj D W ms) := zAi (fun j hj => by constructor <;> omega) hW hms _ (Nat.le_refl _)
variable {first : Nat} {lost : Int}
theorem zFP : zg1 D W first lost ms 0 = (zbe first ms : Int) := ziN _ (by decide)
theorem zFQ : zg1 D W first lost ms 1 = (ms.length : Int) := ziN _ (by decide)
theorem zhe (hfi : first < D) : zbe first ms < D := by unfold zbe; split <;> omega
theorem ztX (hfi : first < D) : zd4 (zg1 D W first lost ms) W D = true := by
 have h1 := zhe hms hl hfi
 unfold zd4
 rw [zFP hms hl, zFQ hms hl, decide_eq_true (show (zbe first ms : Int) < (D : Int) by omega), decide_eq_true (show (ms.length : Int) <= (D : Int) by omega), Bool.true_and, Bool.true_and, tnC]
 have h2 : zgR (fun i => zg1 D W first lost ms (3 + i)) W D (zbe first ms) (ms.length : Int) = true := zv3 hms hl
 rw [h2, Bool.and_true]
 unfold zbe
 by_cases c : ms.length = 0
 . rw [if_pos c]; simp
 . rw [decide_eq_true (show (ms.length : Int) > 0 by omega)]; rfl
theorem zwj (hfi : first < D) (hD : D <= 8) (hW : W <= 16) (hlo : 0 <= lost /\ lost < 4294967296) : U32 (zg1 D W first lost ms) := zAi (fun j hj => by
 have h1 := zhe hms hl hfi
 unfold zqE
 split
 . constructor <;> omega
 . split
   . constructor <;> omega
   . exact hlo) hW hms _ (Nat.le_refl _)
end
theorem qst_iff {f : Nat -> Int} {W D : Nat} : zhn f W D = true ↔ f 0 <= (D : Int) /\ zgR (fun i => f (1 + i)) W D 0 (f 0) = true := by
 unfold zhn; rw [Bool.and_eq_true, decide_eq_true_eq]
theorem qpt_iff {f : Nat -> Int} {W D : Nat} : zd4 f W D = true ↔ f 0 < (D : Int) /\ f 1 <= (D : Int) /\ (f 1 > 0 ∨ f 0 = 0) /\ zgR (fun i => f (3 + i)) W D (f 0).toNat (f 1) = true := by
 unfold zd4; rw [Bool.and_eq_true, Bool.and_eq_true, Bool.and_eq_true, Bool.or_eq_true, decide_eq_true_eq, decide_eq_true_eq, decide_eq_true_eq, beq_iff_eq]
def stM (f : Nat -> Int) (W D : Nat) : List (List Int) := zjE (fun i => f (1 + i)) W D 0 (f 0).toNat
def ptM (f : Nat -> Int) (W D : Nat) : List (List Int) := zjE (fun i => f (3 + i)) W D (f 0).toNat (f 1).toNat
def ptR (f : Nat -> Int) (W D : Nat) : QueueRow := ⟨f 0, f 2, ptM f W D⟩
section
variable {f : Nat -> Int} (hf : U32 f) {W D : Nat}
include hf
theorem zsa (h : zhn f W D = true) : (∀ m ∈ stM f W D, zbQ W m) /\ (stM f W D).length <= D /\ ((stM f W D).length : Int) = f 0 := by
 obtain ⟨h1, h2⟩ := qst_iff.1 h
 have h0 := (hf 0).1
 have e : (((f 0).toNat : Nat) : Int) = f 0 := by omega
 refine ⟨zwq (hf.sh 1) (show (f 0).toNat <= D by omega) (by rw [e]; exact h2), by unfold stM; rw [zf1]; omega, by unfold stM; rw [zf1]; omega⟩
theorem zvl (h : zd4 f W D = true) : (∀ m ∈ ptM f W D, zbQ W m) /\ (ptM f W D).length <= D /\ ((ptM f W D).length : Int) = f 1 := by
 obtain ⟨h1, h2, h3, h4⟩ := qpt_iff.1 h
 have h0 := (hf 1).1
 have e : (((f 1).toNat : Nat) : Int) = f 1 := by omega
 refine ⟨zwq (hf.sh 3) (show (f 1).toNat <= D by omega) (by rw [e]; exact h4), by unfold ptM; rw [zf1]; omega, by unfold ptM; rw [zf1]; omega⟩
end
section
variable {f : Nat -> Int} (hf : U32 f) {W D : Nat} (hW1 : 1 <= W) (hW : W <= 16) (hD1 : 1 <= D) (hD : D <= 8) {N a : Nat} (hN : N <= 100000)
include hf hW1 hW hD1 hD hN
theorem zBY (h : Nat) (hh : h <= 3) (ha : a + (h + D * (1 + W)) <= N) :
 zci (some ⟨mk N f⟩) (a : Int) (zbt ⟨(W : Int), (D : Int)⟩ (h : Int)) = (mk (h + D * (1 + W)) (fun i => f (a + i)), 0) /\ zc1 (some ⟨mk N f⟩) (a : Int) (zbt ⟨(W : Int), (D : Int)⟩ (h : Int)) = true := by
 rw [zzQ hf hW1 hW hD1 hD hN h hh]
 exact zk (zse (f := f) hN ha)
theorem zxl (ha : a + (1 + D * (1 + W)) <= N) (hok : zhn (fun i => f (a + i)) W D = true) :
 zrs ⟨(W : Int), (D : Int)⟩ (a : Int) (mk N f) = some (⟨0, 0, stM (fun i => f (a + i)) W D⟩, true, ⟨mk N f⟩) := by
 obtain ⟨h1, h2⟩ := qst_iff.1 hok
 have h0 := ((hf.sh a) 0).1
 have e : ((((fun i => f (a + i)) 0).toNat : Nat) : Int) = (fun i => f (a + i)) 0 := by omega
 obtain ⟨k1, k2⟩ := zBY hf hW1 hW hD1 hD hN (a := a) 1 (by omega) ha
 have k1' : zci (some ⟨mk N f⟩) (a : Int) (zbt ⟨(W : Int), (D : Int)⟩ 1) = (mk (1 + D * (1 + W)) (fun i => f (a + i)), 0) := k1
 have k2' : zc1 (some ⟨mk N f⟩) (a : Int) (zbt ⟨(W : Int), (D : Int)⟩ 1) = true := k2
 obtain ⟨m1, m2⟩ := zk (zBr ((hf.sh a).sh 1) hW hD1 hD (first := 0) (by omega) (many := ((fun i => f (a + i)) 0).toNat) (by have h1' : f (a + 0) <= (D : Int) := h1; show (f (a + 0)).toNat <= D; omega) (by rw [e]; exact h2))
 have m1' : zmY ⟨(W : Int), (D : Int)⟩ (mk (D * (1 + W)) fun i => f (a + (1 + i))) 0 ((((fun i => f (a + i)) 0).toNat : Nat) : Int) = _ := m1
 have m2' : zj1 ⟨(W : Int), (D : Int)⟩ (mk (D * (1 + W)) fun i => f (a + (1 + i))) 0 ((((fun i => f (a + i)) 0).toNat : Nat) : Int) = true := m2
 rw [e] at m1' m2'
 have e3 : ((mk (1 + D * (1 + W)) fun i => f (a + i)).take (1 + D * (1 + W))).drop 1 = mk (D * (1 + W)) fun i => f (a + (1 + i)) := by rw [zbm (Nat.le_refl _), zcf, Nat.add_sub_cancel_left]
 unfold zrs zjd
 rw [k2', cnT, zzo]
 simp only [zfC, k1', zB, tnC, e3, zaU (show 0 < 1 + D * (1 + W) by omega), m1', m2', cnT, zbf (x := 0) (n := 1 + D * (1 + W)) (Int.le_refl _) (by omega), inS_iff.2 (show 0 <= (1 : Int) /\ (1 : Int) <= ((1 + D * (1 + W) : Nat) : Int) /\ ((1 + D * (1 + W) : Nat) : Int) <= ((1 + D * (1 + W) : Nat) : Int) from ⟨by omega, by omega, by omega⟩)]
 rfl
theorem zBj (ha : a + (3 + D * (1 + W)) <= N) (hok : zd4 (fun i => f (a + i)) W D = true) :
 zqV ⟨(W : Int), (D : Int)⟩ (a : Int) (mk N f) = some (ptR (fun i => f (a + i)) W D, true, ⟨mk N f⟩) := by
 obtain ⟨h1, h2, h3, h4⟩ := qpt_iff.1 hok
 have h0 := ((hf.sh a) 0).1
 have h5 := ((hf.sh a) 1).1
 have e : ((((fun i => f (a + i)) 0).toNat : Nat) : Int) = (fun i => f (a + i)) 0 := by omega
 have e' : ((((fun i => f (a + i)) 1).toNat : Nat) : Int) = (fun i => f (a + i)) 1 := by omega
 obtain ⟨k1, k2⟩ := zBY hf hW1 hW hD1 hD hN (a := a) 3 (by omega) ha
 have k1' : zci (some ⟨mk N f⟩) (a : Int) (zbt ⟨(W : Int), (D : Int)⟩ 3) = (mk (3 + D * (1 + W)) (fun i => f (a + i)), 0) := k1
 have k2' : zc1 (some ⟨mk N f⟩) (a : Int) (zbt ⟨(W : Int), (D : Int)⟩ 3) = true := k2
 obtain ⟨m1, m2⟩ := zk (zBr ((hf.sh a).sh 3) hW hD1 hD (first := ((fun i => f (a + i)) 0).toNat) (by have h1' : f (a + 0) < (D : Int) := h1; show (f (a + 0)).toNat < D; omega) (many := ((fun i => f (a + i)) 1).toNat) (by have h1' : f (a + 1) <= (D : Int) := h2; show (f (a + 1)).toNat <= D; omega) (by rw [e']; exact h4))
 have m1' : zmY ⟨(W : Int), (D : Int)⟩ (mk (D * (1 + W)) fun i => f (a + (3 + i))) ((((fun i => f (a + i)) 0).toNat : Nat) : Int) ((((fun i => f (a + i)) 1).toNat : Nat) : Int) = _ := m1
 have m2' : zj1 ⟨(W : Int), (D : Int)⟩ (mk (D * (1 + W)) fun i => f (a + (3 + i))) ((((fun i => f (a + i)) 0).toNat : Nat) : Int) ((((fun i => f (a + i)) 1).toNat : Nat) : Int) = true := m2
 rw [e, e'] at m1' m2'
 have e3 : ((mk (3 + D * (1 + W)) fun i => f (a + i)).take (3 + D * (1 + W))).drop 3 = mk (D * (1 + W)) fun i => f (a + (3 + i)) := by rw [zbm (Nat.le_refl _), zcf, Nat.add_sub_cancel_left]
 unfold zqV ziR
 rw [k2', cnT, zzl]
 simp only [zfz, k1', zB, tnC, e3, zaU (show 0 < 3 + D * (1 + W) by omega), zaU (show 1 < 3 + D * (1 + W) by omega), zaU (show 2 < 3 + D * (1 + W) by omega), m1', m2', cnT, zbf (x := 0) (n := 3 + D * (1 + W)) (Int.le_refl _) (by omega), zbf (x := 1) (n := 3 + D * (1 + W)) (by decide) (by omega), zbf (x := 2) (n := 3 + D * (1 + W)) (by decide) (by omega), inS_iff.2 (show 0 <= (3 : Int) /\ (3 : Int) <= ((3 + D * (1 + W) : Nat) : Int) /\ ((3 + D * (1 + W) : Nat) : Int) <= ((3 + D * (1 + W) : Nat) : Int) from ⟨by omega, by omega, by omega⟩)]
 by_cases c : f (a + 1) > 0
 . rw [decide_eq_true c, cnT]; rfl
 . have : f (a + 0) = 0 := h3.resolve_left c
   rw [decide_eq_false c, cnF]; simp only [ptR, ptM, this]; rfl
theorem zuC (ha : a + (1 + D * (1 + W)) <= N) (hok : zhn (fun i => f (a + i)) W D = true) :
 zrr ⟨(W : Int), (D : Int)⟩ (a : Int) (mk N f) = some (⟨0, 0, stM (fun i => f (a + i)) W D⟩, 0, ⟨mk N f⟩) := by
 obtain ⟨k1, k2⟩ := zk (zlj hf hW1 hW hD1 hD hN (a := a) 1 (by omega) ha)
 have k1' : zg2 ⟨(W : Int), (D : Int)⟩ (some ⟨mk N f⟩) (a : Int) 1 = true := k1
 have k2' : zd7 ⟨(W : Int), (D : Int)⟩ (some ⟨mk N f⟩) (a : Int) 1 = true := k2
 obtain ⟨m1, m2⟩ := zk (zxl hf hW1 hW hD1 hD hN ha hok)
 have m1' : za3 ⟨(W : Int), (D : Int)⟩ (a : Int) (mk N f) = _ := m1
 have m2' : zj4 ⟨(W : Int), (D : Int)⟩ (a : Int) (mk N f) = true := m2
 unfold zrr zmc
 rw [k1', k2', m1', m2']; rfl
theorem zmM (ha : a + (3 + D * (1 + W)) <= N) (hok : zd4 (fun i => f (a + i)) W D = true) :
 zwX (a : Int) (W : Int) (D : Int) (mk N f) = some (⟨(W : Int), (D : Int)⟩, ptR (fun i => f (a + i)) W D, 0, ⟨mk N f⟩) := by
 obtain ⟨k1, k2⟩ := zk (zlj hf hW1 hW hD1 hD hN (a := a) 3 (by omega) ha)
 have k1' : zg2 ⟨(W : Int), (D : Int)⟩ (some ⟨mk N f⟩) (a : Int) 3 = true := k1
 have k2' : zd7 ⟨(W : Int), (D : Int)⟩ (some ⟨mk N f⟩) (a : Int) 3 = true := k2
 obtain ⟨m1, m2⟩ := zk (zBj hf hW1 hW hD1 hD hN ha hok)
 have m1' : zes ⟨(W : Int), (D : Int)⟩ (a : Int) (mk N f) = _ := m1
 have m2' : zj0 ⟨(W : Int), (D : Int)⟩ (a : Int) (mk N f) = true := m2
 unfold zwX ztl
 rw [zk7 hf hW1 hW hD1 hD hN, k1', k2', m1', m2']; rfl
theorem zoX (ha : a + (3 + D * (1 + W)) <= N) {first : Nat} (hfi : first < D) {lost : Int} {ms : List (List Int)} (hms : ∀ m ∈ ms, zbQ W m) (hl : ms.length <= D) :
 zwY ⟨(W : Int), (D : Int)⟩ (a : Int) ⟨(first : Int), lost, ms⟩ (mk N f) = some ⟨mk N (over f a (3 + D * (1 + W)) (zg1 D W first lost ms))⟩ := by
 have hlt := zhe hms hl hfi
 obtain ⟨k1, k2⟩ := zk (zAC hf hW1 hW hD1 hD hN (a := a) (h := 3) (by omega) (first := zbe first ms) hlt (lost := lost) hms hl (zqE first lost ms) ha)
 have e : mk 3 (zqE first lost ms) = [((zbe first ms : Nat) : Int), u32.wrap (ms.length : Int), lost] := by
  rw [zdO (by omega) (by omega)]; rfl
 rw [e] at k1 k2
 have k1' : zib ⟨(W : Int), (D : Int)⟩ (a : Int) ⟨((zbe first ms : Nat) : Int), lost, ms⟩ [((zbe first ms : Nat) : Int), u32.wrap (ms.length : Int), lost] (mk N f) = _ := k1
 have k2' : zfi ⟨(W : Int), (D : Int)⟩ (a : Int) ⟨((zbe first ms : Nat) : Int), lost, ms⟩ [((zbe first ms : Nat) : Int), u32.wrap (ms.length : Int), lost] (mk N f) = true := k2
 have h7 : zpP ⟨(W : Int), (D : Int)⟩ (a : Int) ⟨(first : Int), lost, ms⟩ (mk N f) (.l7 ((zbe first ms : Nat) : Int)) = some ⟨mk N (over f a (3 + D * (1 + W)) (zg1 D W first lost ms))⟩ := by
  rw [zBF]
  simp only [zkf, k1', k2', cnT, id]
  rfl
 unfold zwY zoD
 show cond ((ms.length : Int) == 0) (zpP ⟨(W : Int), (D : Int)⟩ (a : Int) ⟨(first : Int), lost, ms⟩ (mk N f) (.l7 0)) (zpP ⟨(W : Int), (D : Int)⟩ (a : Int) ⟨(first : Int), lost, ms⟩ (mk N f) (.l7 (first : Int))) = _
 unfold zbe at h7
 by_cases c : ms.length = 0
 . rw [if_pos c] at h7
   rw [c]; exact h7
 . rw [if_neg c] at h7
   have : ((ms.length : Int) == 0) = false := by simpa using c
   rw [this]; exact h7
theorem zL9 (ha : a + (1 + D * (1 + W)) <= N) (hok : zhn (fun i => f (a + i)) W D = true) {m : List Int} (hm : zbQ W m) :
 zro (a : Int) (W : Int) (D : Int) m (mk N f) = some (if (stM (fun i => f (a + i)) W D).length = D then (false, 0, ⟨mk N f⟩) else (true, 0, ⟨mk N (over f a (1 + D * (1 + W)) (zgj D W (stM (fun i => f (a + i)) W D ++ [m])))⟩)) := by
 obtain ⟨s1, s2, _⟩ := zsa (hf.sh a) hok
 obtain ⟨k1, k2⟩ := zk (zuC hf hW1 hW hD1 hD hN ha hok)
 have k1' : zbd ⟨(W : Int), (D : Int)⟩ (a : Int) (mk N f) = _ := k1
 have k2' : zj3 ⟨(W : Int), (D : Int)⟩ (a : Int) (mk N f) = true := k2
 generalize stM (fun i => f (a + i)) W D = ms at *
 obtain ⟨m1, m2, m3⟩ := hm
 have c1 : ((m.length : Int) == 0) = false := by
  cases h : ((m.length : Int) == 0) with
  | false => rfl
  | true => exact absurd (by simpa using h) (show ¬ m.length = 0 by omega)
 unfold zro zma
 rw [zk7 hf hW1 hW hD1 hD hN, c1, decide_eq_false (show ¬ (m.length : Int) > (W : Int) by omega), k2', k1']
 by_cases c : ms.length = D
 . rw [if_pos c]
   show cond ((ms.length : Int) == (D : Int)) _ _ = _
   rw [c, beq_self_eq_true]; rfl
 . rw [if_neg c]
   have c2 : ((ms.length : Int) == (D : Int)) = false := by
    cases h : ((ms.length : Int) == (D : Int)) with
    | false => rfl
    | true => exact absurd (by have := eq_of_beq h; omega) c
   have hms' : ∀ x ∈ ms ++ [m], zbQ W x := fun x hx => by
    rcases List.mem_append.1 hx with h | h
    . exact s1 x h
    . rw [List.mem_singleton.1 h]; exact ⟨m1, m2, m3⟩
   have hl' : (ms ++ [m]).length <= D := by rw [List.length_append, List.length_singleton]; omega
   obtain ⟨q1, q2⟩ := zk (zAC hf hW1 hW hD1 hD hN (a := a) (h := 1) (by omega) (first := 0) (by omega) (lost := 0) hms' hl' (fun _ => ((ms ++ [m]).length : Int)) ha)
   have e : mk 1 (fun _ => ((ms ++ [m]).length : Int)) = [u32.wrap ((ms ++ [m]).length : Int)] := by
    rw [zdO (by omega) (by omega)]; rfl
   rw [e] at q1 q2
   have q1' : zib ⟨(W : Int), (D : Int)⟩ (a : Int) ⟨0, 0, ms ++ [m]⟩ [u32.wrap ((ms ++ [m]).length : Int)] (mk N f) = _ := q1
   have q2' : zfi ⟨(W : Int), (D : Int)⟩ (a : Int) ⟨0, 0, ms ++ [m]⟩ [u32.wrap ((ms ++ [m]).length : Int)] (mk N f) = true := q2
   show cond ((ms.length : Int) == (D : Int)) _ (cond (leB ((ms.length + 1) * 24) 140737488355328) (cond (zfi ⟨(W : Int), (D : Int)⟩ (a : Int) ⟨0, 0, ms ++ [m]⟩ [u32.wrap ((ms ++ [m]).length : Int)] (mk N f)) (some (true, 0, zib ⟨(W : Int), (D : Int)⟩ (a : Int) ⟨0, 0, ms ++ [m]⟩ [u32.wrap ((ms ++ [m]).length : Int)] (mk N f))) none) none) = _
   rw [c2, q1', q2', zbc (by omega)]; rfl
theorem zy5 (ha : a + (1 + D * (1 + W)) <= N) (hok : zhn (fun i => f (a + i)) W D = true) :
 zrp (a : Int) (W : Int) (D : Int) (mk N f) = some (((stM (fun i => f (a + i)) W D).length : Int), 0, ⟨mk N f⟩) := by
 obtain ⟨k1, k2⟩ := zk (zuC hf hW1 hW hD1 hD hN ha hok)
 have k1' : zbd ⟨(W : Int), (D : Int)⟩ (a : Int) (mk N f) = _ := k1
 have k2' : zj3 ⟨(W : Int), (D : Int)⟩ (a : Int) (mk N f) = true := k2
 unfold zrp zmb
 rw [zk7 hf hW1 hW hD1 hD hN, k1', k2']; rfl
theorem zBn (ha : a + (3 + D * (1 + W)) <= N) (hok : zd4 (fun i => f (a + i)) W D = true) :
 zrm (a : Int) (W : Int) (D : Int) (mk N f) = some (((ptM (fun i => f (a + i)) W D).length : Int), f (a + 2), 0, ⟨mk N f⟩) := by
 obtain ⟨k1, k2⟩ := zk (zmM hf hW1 hW hD1 hD hN ha hok)
 have k1' : za6 (a : Int) (W : Int) (D : Int) (mk N f) = _ := k1
 have k2' : zkV (a : Int) (W : Int) (D : Int) (mk N f) = true := k2
 unfold zrm zl8
 rw [k1', k2']; rfl
theorem zFR (ha : a + (3 + D * (1 + W)) <= N) (hok : zd4 (fun i => f (a + i)) W D = true) :
 zrn (a : Int) (W : Int) (D : Int) (mk N f) = some (zak (ptM (fun i => f (a + i)) W D) 0, decide (1 <= (ptM (fun i => f (a + i)) W D).length), 0, ⟨mk N f⟩) := by
 obtain ⟨k1, k2⟩ := zk (zmM hf hW1 hW hD1 hD hN ha hok)
 have k1' : za6 (a : Int) (W : Int) (D : Int) (mk N f) = _ := k1
 have k2' : zkV (a : Int) (W : Int) (D : Int) (mk N f) = true := k2
 unfold zrn zl9
 rw [k1', k2']
 unfold ptR
 generalize ptM (fun i => f (a + i)) W D = ms
 cases ms with
 | nil => rfl
 | cons x xs =>
  have : (((x :: xs).length : Int) == 0) = false := by
   cases h : (((x :: xs).length : Int) == 0) with
   | false => rfl
   | true => exact absurd (show (((x :: xs).length : Int)) = 0 by simpa using h) (by rw [List.length_cons]; omega)
  simp only [beq_self_eq_true, Bool.not_true, cnT, cnF, this, zbf (x := 0) (n := (x :: xs).length) (Int.le_refl 0) (by rw [List.length_cons]; omega), decide_eq_true (show 1 <= (x :: xs).length by rw [List.length_cons]; omega)]
  rfl
theorem zFS (ha : a + (3 + D * (1 + W)) <= N) (hok : zd4 (fun i => f (a + i)) W D = true) :
 zup (a : Int) (W : Int) (D : Int) (mk N f) = some (if (ptM (fun i => f (a + i)) W D).length = 0 then (false, 0, ⟨mk N f⟩) else (true, 0, ⟨mk N (over f a (3 + D * (1 + W)) (zg1 D W (((f (a + 0)).toNat + 1) % D) (f (a + 2)) ((ptM (fun i => f (a + i)) W D).drop 1)))⟩)) := by
 obtain ⟨s1, s2, _⟩ := zvl (hf.sh a) hok
 obtain ⟨h1, _, _, _⟩ := qpt_iff.1 hok
 have h1' : f (a + 0) < (D : Int) := h1
 have h0 := (hf (a + 0)).1
 obtain ⟨k1, k2⟩ := zk (zmM hf hW1 hW hD1 hD hN ha hok)
 have k1' : za6 (a : Int) (W : Int) (D : Int) (mk N f) = (⟨(W : Int), (D : Int)⟩, ⟨f (a + 0), f (a + 2), ptM (fun i => f (a + i)) W D⟩, 0, ⟨mk N f⟩) := k1
 have k2' : zkV (a : Int) (W : Int) (D : Int) (mk N f) = true := k2
 generalize ptM (fun i => f (a + i)) W D = ms at *
 have eD : u32.wrap (D : Int) = (D : Int) := zdO (by omega) (by omega)
 have e1 : u32.wrap (f (a + 0) + 1) = (((f (a + 0)).toNat + 1 : Nat) : Int) := by rw [zdO (by omega) (by omega)]; omega
 have er : ∀ x y : Nat, dv .rem .u32 (x : Int) (y : Int) = ((x % y : Nat) : Int) := fun x y => by
  show Int.tmod (x : Int) (y : Int) = _
  rw [Int.tmod_eq_emod_of_nonneg (Int.natCast_nonneg x)]
  exact (Int.natCast_emod x y).symm
 unfold zup ztj
 rw [k2', k1']
 simp only [eD, e1, er, tnC, List.take_length]
 by_cases c : ms.length = 0
 . rw [if_pos c]
   show cond ((ms.length : Int) == 0) _ _ = _
   rw [c]; rfl
 . rw [if_neg c]
   have c2 : ((ms.length : Int) == 0) = false := by
    cases h : ((ms.length : Int) == 0) with
    | false => rfl
    | true => exact absurd (by simpa using h) c
   obtain ⟨q1, q2⟩ := zk (zoX hf hW1 hW hD1 hD hN ha (first := ((f (a + 0)).toNat + 1) % D) (Nat.mod_lt _ (by omega)) (lost := f (a + 2)) (ms := ms.drop 1) (fun x hx => s1 x (List.mem_of_mem_drop hx)) (by rw [List.length_drop]; omega))
   have q1' : zzg ⟨(W : Int), (D : Int)⟩ (a : Int) ⟨((((f (a + 0)).toNat + 1) % D : Nat) : Int), f (a + 2), ms.drop 1⟩ (mk N f) = _ := q1
   have q2' : zp8 ⟨(W : Int), (D : Int)⟩ (a : Int) ⟨((((f (a + 0)).toNat + 1) % D : Nat) : Int), f (a + 2), ms.drop 1⟩ (mk N f) = true := q2
   rw [c2, q1', q2', decide_eq_false (show ¬ (D : Int) = 0 by omega), inS_iff.2 (show 0 <= (1 : Int) /\ (1 : Int) <= (ms.length : Int) /\ (ms.length : Int) <= (ms.length : Int) from ⟨by omega, by omega, by omega⟩)]
   rfl
end
def zzO (D : Nat) (x : Int × List (List Int)) (m : List Int) : Int × List (List Int) := if x.2.length < D then (x.1, x.2 ++ [m]) else if x.1 < 4294967295 then (x.1 + 1, x.2) else x
def zfu (D : Nat) (x : Int × List (List Int)) (sm : List (List Int)) : Nat -> Int × List (List Int)
 | 0 => x
 | t + 1 => zzO D (zfu D x sm t) (zak sm t)
def zmL (h : Nat -> Int) (W D : Nat) (sm : List (List Int)) : Nat -> Int := zg1 D W (h 0).toNat (zfu D (h 2, ptM h W D) sm sm.length).1 (zfu D (h 2, ptM h W D) sm sm.length).2
def opQ (f : Nat -> Int) (ps : Nat -> Nat) (W D : Nat) (sm : List (List Int)) (j : Nat) (g : Nat -> Int) : Nat -> Int := over g (ps j) (3 + D * (1 + W)) (zmL (fun i => f (ps j + i)) W D sm)
structure zvP (W D : Nat) (x : Int × List (List Int)) : Prop where
 lost : 0 <= x.1 /\ x.1 < 4294967296
 len : x.2.length <= D
 ok : ∀ m ∈ x.2, zbQ W m
theorem zqm {W D : Nat} {x : Int × List (List Int)} (hx : zvP W D x) {sm : List (List Int)} (hs : ∀ m ∈ sm, zbQ W m) (t : Nat) (ht : t <= sm.length) : zvP W D (zfu D x sm t) := by
 induction t with
 | zero => exact hx
 | succ t ih =>
  obtain ⟨h1, h2, h3⟩ := ih (by omega)
  show zvP W D (zzO D (zfu D x sm t) (zak sm t))
  unfold zzO
  split
  . rename_i c
    refine ⟨h1, ?_, fun m hm => ?_⟩
    . show (_ ++ [_]).length <= D
      rw [List.length_append, List.length_singleton]; omega
    . rcases List.mem_append.1 hm with h | h
      . exact h3 m h
      . rw [List.mem_singleton.1 h]; exact hs _ (zhF (by omega))
  . split
    . refine ⟨?_, h2, h3⟩
      constructor <;> (simp only; omega)
    . exact ⟨h1, h2, h3⟩
theorem zBm {h : Nat -> Int} (hf : U32 h) {W D : Nat} (hok : zd4 h W D = true) : zvP W D (h 2, ptM h W D) := by
 obtain ⟨s1, s2, _⟩ := zvl hf hok
 exact ⟨hf 2, s2, s1⟩
theorem ztY {h : Nat -> Int} (hf : U32 h) {W D : Nat} (hD : D <= 8) (hW : W <= 16) (hok : zd4 h W D = true) {sm : List (List Int)} (hs : ∀ m ∈ sm, zbQ W m) : zd4 (zmL h W D sm) W D = true /\ U32 (zmL h W D sm) := by
 obtain ⟨a1, a2, a3⟩ := zqm (zBm hf hok) hs sm.length (Nat.le_refl _)
 have h0 := (hf 0).1
 have hfi : (h 0).toNat < D := by have := (qpt_iff.1 hok).1; omega
 exact ⟨ztX a3 a2 hfi, zwj a3 a2 hfi hD hW a1⟩
theorem zAY (a : Nat) : Nat.max a 0 = a := by show max a 0 = a; omega
theorem nz {n : Nat} (h : ¬ n = 0) : ((n : Int) == 0) = false := by
 cases c : ((n : Int) == 0) with
 | false => rfl
 | true => exact absurd (by have := eq_of_beq c; omega) h
def zcg (f : Nat -> Int) (ps : Nat -> Nat) (W D i : Nat) : List QueueRow := (List.range i).map fun j => ptR (fun i => f (ps j + i)) W D
theorem zpg (f : Nat -> Int) (ps : Nat -> Nat) (W D i : Nat) : (zcg f ps W D i).length = i := by simp [zcg]
theorem zBw (f : Nat -> Int) (ps : Nat -> Nat) (W D : Nat) {i j : Nat} (h : j < i) : zg6 (zcg f ps W D i) j = ptR (fun i => f (ps j + i)) W D := by simp [zcg, zg6, List.getD, h]
section
variable {f : Nat -> Int} (hf : U32 f) {W D : Nat} (hW1 : 1 <= W) (hW : W <= 16) (hD1 : 1 <= D) (hD : D <= 8) {N a : Nat} (hN : N <= 100000) {k : Nat} (hk : k <= 4) {ps : Nat -> Nat}
include hf hW1 hW hD1 hD hN hk
theorem zlc {op : Nat -> (Nat -> Int) -> Nat -> Int} (ho : ∀ j g, j < k -> U32 g -> U32 (op j g)) : ∀ i, i <= k -> U32 (zas f op i) := by
 intro i
 induction i with
 | zero => exact fun _ => hf
 | succ i ih => exact fun h => ho i _ (by omega) (ih (by omega))
theorem zL8 (hst : a + (1 + D * (1 + W)) <= N) (hpt : ∀ j, j < k -> ps j + (3 + D * (1 + W)) <= N) (hs : zhn (fun i => f (a + i)) W D = true) (hp : ∀ j, j < k -> zd4 (fun i => f (ps j + i)) W D = true) :
 zrq (a : Int) (W : Int) (D : Int) (mk k fun j => (ps j : Int)) (mk N f) = some (0, ⟨mk N (over (zas f (opQ f ps W D (stM (fun i => f (a + i)) W D)) k) a (1 + D * (1 + W)) (zgj D W []))⟩) := by
 obtain ⟨s1, s2, _⟩ := zsa (hf.sh a) hs
 obtain ⟨t1, t2⟩ := zk (zlj hf hW1 hW hD1 hD hN (a := a) 1 (by omega) hst)
 have t1' : zg2 ⟨(W : Int), (D : Int)⟩ (some ⟨mk N f⟩) (a : Int) 1 = true := t1
 have t2' : zd7 ⟨(W : Int), (D : Int)⟩ (some ⟨mk N f⟩) (a : Int) 1 = true := t2
 obtain ⟨m1, m2⟩ := zk (zxl hf hW1 hW hD1 hD hN hst hs)
 have m1' : za3 ⟨(W : Int), (D : Int)⟩ (a : Int) (mk N f) = _ := m1
 have m2' : zj4 ⟨(W : Int), (D : Int)⟩ (a : Int) (mk N f) = true := m2
 generalize stM (fun i => f (a + i)) W D = sm at *
 -- the ports are there
 have l0 := zz (n := k) (f := fun i (_ : Unit) => zbk (a : Int) (W : Int) (D : Int) (mk k fun j => (ps j : Int)) (mk N f) (.l0 true (i : Int))) (S := fun _ => ()) (fun i hi => by
  obtain ⟨k1, k2⟩ := zk (zlj hf hW1 hW hD1 hD hN (a := ps i) 3 (by omega) (hpt i hi))
  have k1' : zg2 ⟨(W : Int), (D : Int)⟩ (some ⟨mk N f⟩) (ps i : Int) 3 = true := k1
  have k2' : zd7 ⟨(W : Int), (D : Int)⟩ (some ⟨mk N f⟩) (ps i : Int) 3 = true := k2
  rw [zbG]
  simp only [zbL, zB, zR hi, cnT, zh hi, tnC, zaU hi, k1', k2', zf i (show i < 4611686018427387904 by omega)])
 have x0 : zbk (a : Int) (W : Int) (D : Int) (mk k fun j => (ps j : Int)) (mk N f) (.l0 true (k : Int)) = zbk (a : Int) (W : Int) (D : Int) (mk k fun j => (ps j : Int)) (mk N f) (.l4 true 0 (mk N f) []) := by
  rw [zbG]
  simp only [zbL, zB, zS (Nat.le_refl k), cnF, m1', m2', cnT, Bool.not_true]
 -- the rows
 have l4 := zz (n := k) (f := fun i (xs : List QueueRow) => zbk (a : Int) (W : Int) (D : Int) (mk k fun j => (ps j : Int)) (mk N f) (.l4 true (i : Int) (mk N f) xs)) (S := fun i => zcg f ps W D i) (fun i hi => by
  obtain ⟨k1, k2⟩ := zk (zBj hf hW1 hW hD1 hD hN (a := ps i) (hpt i hi) (hp i hi))
  have k1' : zes ⟨(W : Int), (D : Int)⟩ (ps i : Int) (mk N f) = _ := k1
  have k2' : zj0 ⟨(W : Int), (D : Int)⟩ (ps i : Int) (mk N f) = true := k2
  have er : zcg f ps W D (i + 1) = zcg f ps W D i ++ [ptR (fun j => f (ps i + j)) W D] := by simp [zcg, List.range_succ]
  rw [zbG]
  simp only [zbL, zB, zR hi, cnT, zh hi, tnC, zaU hi, k1', k2', zf i (show i < 4611686018427387904 by omega), zpg, List.length_singleton, zbc (show (i + 1) * 32 <= 140737488355328 by omega), er])
 have x4 : zbk (a : Int) (W : Int) (D : Int) (mk k fun j => (ps j : Int)) (mk N f) (.l4 true (k : Int) (mk N f) (zcg f ps W D k)) = zbk (a : Int) (W : Int) (D : Int) (mk k fun j => (ps j : Int)) (mk N f) (.l8 0 (mk N f) (zcg f ps W D k) 0) := by
  rw [zbG]
  simp only [zbL, zB, zS (Nat.le_refl k), cnF, Bool.not_true]
 -- what is laid
 have hU : ∀ i, i <= k -> U32 (zas f (opQ f ps W D sm) i) := zlc hf hW1 hW hD1 hD hN hk fun j g hj hg => zcX hg fun i hi => (ztY (hf.sh (ps j)) hD hW (hp j hj) s1).2 i
 have l8 := zz (n := k) (f := fun i (xs : List Int) => zbk (a : Int) (W : Int) (D : Int) (mk k fun j => (ps j : Int)) (mk N f) (.l8 (i : Int) xs (zcg f ps W D k) i)) (S := fun i => mk N (zas f (opQ f ps W D sm) i)) (fun i hi => by
  have hacc := zBm (hf.sh (ps i)) (hp i hi)
  obtain ⟨a1, a2, a3⟩ := zqm hacc s1 sm.length (Nat.le_refl _)
  have h0 : 0 <= f (ps i + 0) := ((hf.sh (ps i)) 0).1
  have hfi : (f (ps i + 0)).toNat < D := by have h1 : f (ps i + 0) < (D : Int) := (qpt_iff.1 (hp i hi)).1; omega
  have ef : (((f (ps i + 0)).toNat : Nat) : Int) = f (ps i + 0) := by omega
  obtain ⟨q1, q2⟩ := zk (zoX (hU i (by omega)) hW1 hW hD1 hD hN (hpt i hi) hfi (lost := (zfu D (f (ps i + 2), ptM (fun j => f (ps i + j)) W D) sm sm.length).1) a3 a2)
  rw [ef] at q1 q2
  have hes : over (zas f (opQ f ps W D sm) i) (ps i) (3 + D * (1 + W)) (zg1 D W (f (ps i + 0)).toNat (zfu D (f (ps i + 2), ptM (fun j => f (ps i + j)) W D) sm sm.length).1 (zfu D (f (ps i + 2), ptM (fun j => f (ps i + j)) W D) sm sm.length).2) = zas f (opQ f ps W D sm) (i + 1) := rfl
  rw [hes] at q1
  have hat : ptR (fun j => f (ps i + j)) W D = ⟨f (ps i + 0), f (ps i + 2), ptM (fun j => f (ps i + j)) W D⟩ := rfl
  have hpe : ps i + 0 = ps i := rfl
  generalize hy0 : f (ps i + 0) = y0 at *
  generalize hx : (f (ps i + 2), ptM (fun j => f (ps i + j)) W D) = x at *
  have hx1 : f (ps i + 2) = x.1 := by rw [← hx]
  have hx2 : ptM (fun j => f (ps i + j)) W D = x.2 := by rw [← hx]
  have q1' : zzg ⟨(W : Int), (D : Int)⟩ (ps i : Int) ⟨y0, (zfu D x sm sm.length).1, (zfu D x sm sm.length).2⟩ (mk N (zas f (opQ f ps W D sm) i)) = _ := q1
  have q2' : zp8 ⟨(W : Int), (D : Int)⟩ (ps i : Int) ⟨y0, (zfu D x sm sm.length).1, (zfu D x sm sm.length).2⟩ (mk N (zas f (opQ f ps W D sm) i)) = true := q2
  have inner := zz (n := sm.length) (f := fun t (y : Int × List (List Int)) => zbk (a : Int) (W : Int) (D : Int) (mk k fun j => (ps j : Int)) (mk N f) (.l12 (ps i : Int) (i : Int) (t : Int) (mk N (zas f (opQ f ps W D sm) i)) (zcg f ps W D k) (i + 1) y0 y.1 y.2)) (S := fun t => zfu D x sm t) (fun t ht => by
   obtain ⟨b1, b2, b3⟩ := zqm hacc s1 t (by omega)
   have h75 : ∀ (z4 : Int) (z5 : List (List Int)), zbk (a : Int) (W : Int) (D : Int) (mk k fun j => (ps j : Int)) (mk N f) (.l75 (ps i : Int) (i : Int) (t : Int) (mk N (zas f (opQ f ps W D sm) i)) (zcg f ps W D k) (i + 1) y0 z4 z5) = zbk (a : Int) (W : Int) (D : Int) (mk k fun j => (ps j : Int)) (mk N f) (.l12 (ps i : Int) (i : Int) ((t + 1 : Nat) : Int) (mk N (zas f (opQ f ps W D sm) i)) (zcg f ps W D k) (i + 1) y0 z4 z5) := fun z4 z5 => by
    rw [zbG]
    simp only [zbL, zf t (show t < 4611686018427387904 by omega), zAY]
   have hs1 : zfu D x sm (t + 1) = zzO D (zfu D x sm t) (zak sm t) := rfl
   rw [hs1]
   generalize zfu D x sm t = y at *
   rw [zbG]
   simp only [zbL, m1', zR ht, cnT, zh ht, tnC, h75, List.length_singleton]
   unfold zzO
   by_cases c : y.2.length < D
   . rw [decide_eq_true (show ((y.2.length : Nat) : Int) < (D : Int) by omega), cnT, zbc (show (y.2.length + 1) * 24 <= 140737488355328 by omega), cnT, if_pos c]
   . rw [decide_eq_false (show ¬ ((y.2.length : Nat) : Int) < (D : Int) by omega), cnF, if_neg c]
     by_cases c2 : y.1 < 4294967295
     . rw [decide_eq_true c2, cnT, if_pos c2, zdO (by omega) (by omega)]
     . rw [decide_eq_false c2, cnF, if_neg c2])
  have last : zbk (a : Int) (W : Int) (D : Int) (mk k fun j => (ps j : Int)) (mk N f) (.l12 (ps i : Int) (i : Int) (sm.length : Int) (mk N (zas f (opQ f ps W D sm) i)) (zcg f ps W D k) (i + 1) y0 (zfu D x sm sm.length).1 (zfu D x sm sm.length).2) = zbk (a : Int) (W : Int) (D : Int) (mk k fun j => (ps j : Int)) (mk N f) (.l8 ((i + 1 : Nat) : Int) (mk N (zas f (opQ f ps W D sm) (i + 1))) (zcg f ps W D k) (i + 1)) := by
   rw [zbG]
   simp only [zbL, m1', zS (Nat.le_refl _), cnF, q1', q2', cnT, zf i (show i < 4611686018427387904 by omega), zAY]
  have go : zbk (a : Int) (W : Int) (D : Int) (mk k fun j => (ps j : Int)) (mk N f) (.l12 (ps i : Int) (i : Int) 0 (mk N (zas f (opQ f ps W D sm) i)) (zcg f ps W D k) (i + 1) y0 x.1 x.2) = zbk (a : Int) (W : Int) (D : Int) (mk k fun j => (ps j : Int)) (mk N f) (.l8 ((i + 1 : Nat) : Int) (mk N (zas f (opQ f ps W D sm) (i + 1))) (zcg f ps W D k) (i + 1)) := inner.trans last
  have hb : Nat.ble i i = true := Nat.ble_self_eq_true i
  have hmax : Nat.max (i + 1) (Nat.max i 0) = i + 1 := by rw [zAY]; show max (i + 1) i = i + 1; omega
  rw [zbG]
  simp only [zbL, zB, zR hi, cnT, zh hi, tnC, zaU hi, zpg, zBw f ps W D hi, hb, Bool.and_self, hmax, hat, hx1, hx2, go])
 obtain ⟨w1, w2⟩ := zk (zAC (hU k (Nat.le_refl _)) hW1 hW hD1 hD hN (a := a) (h := 1) (by omega) (first := 0) (by omega) (lost := 0) (ms := []) (fun m hm => absurd hm List.not_mem_nil) (Nat.zero_le _) (fun _ => 0) hst)
 have w1' : zib ⟨(W : Int), (D : Int)⟩ (a : Int) ⟨0, 0, []⟩ [0] (mk N (zas f (opQ f ps W D sm) k)) = ⟨mk N (over (zas f (opQ f ps W D sm) k) a (1 + D * (1 + W)) (zgj D W []))⟩ := w1
 have w2' : zfi ⟨(W : Int), (D : Int)⟩ (a : Int) ⟨0, 0, []⟩ [0] (mk N (zas f (opQ f ps W D sm) k)) = true := w2
 unfold zrq zjc
 rw [zk7 hf hW1 hW hD1 hD hN, zB, decide_eq_false (show ¬ (k : Int) > 4 by omega), t1', t2']
 refine (show zbk (a : Int) (W : Int) (D : Int) (mk k fun j => (ps j : Int)) (mk N f) (.l0 true 0) = _ from l0).trans (x0.trans ?_)
 refine (show zbk (a : Int) (W : Int) (D : Int) (mk k fun j => (ps j : Int)) (mk N f) (.l4 true 0 (mk N f) []) = _ from l4).trans (x4.trans ?_)
 refine (show zbk (a : Int) (W : Int) (D : Int) (mk k fun j => (ps j : Int)) (mk N f) (.l8 0 (mk N f) (zcg f ps W D k) 0) = _ from l8).trans ?_
 rw [zbG]
 simp only [zbL, zB, zS (Nat.le_refl k), cnF, w1', w2', cnT, id]
end
noncomputable def stB (x : Channel) (g : Nat -> Int) : Bool := if x.kind = 2 then zhn g x.words.toNat x.depth.toNat else zaT g 2 x.words.toNat
noncomputable def ptB (x : Channel) (g : Nat -> Int) : Bool := if x.kind = 2 then zd4 g x.words.toNat x.depth.toNat else zaT g 3 x.words.toNat
theorem znU {x : Channel} (h : x.kind = 1) : stg x = 2 + x.words.toNat := if_pos h
theorem zuD {x : Channel} (h : x.kind = 2) : stg x = 1 + x.depth.toNat * (1 + x.words.toNat) := by
 unfold stg body; rw [if_neg (by omega), if_neg (by omega)]
theorem zt0 {x : Channel} (h : x.kind = 1) : prt x = 3 + x.words.toNat := by unfold prt body; rw [if_pos h]
theorem zt1 {x : Channel} (h : x.kind = 2) : prt x = 3 + x.depth.toNat * (1 + x.words.toNat) := by unfold prt body; rw [if_neg (by omega)]
theorem zmQ {f g : Nat -> Int} {W D first : Nat} {many : Int} (he : ∀ i, i < D * (1 + W) -> f i = g i) (h : zgR f W D first many = true) : zgR g W D first many = true := by
 refine zqJ fun i hi => okQ_iff.2 ?_
 have h1 := Nat.mod_lt (first + i) (show D > 0 by omega)
 have h2 : ((first + i) % D + 1) * (1 + W) <= D * (1 + W) := Nat.mul_le_mul_right _ h1
 rw [Nat.add_mul, Nat.one_mul] at h2
 obtain ⟨⟨g1, g2⟩, g3⟩ := okQ_iff.1 (zqI h hi)
 rw [he _ (by omega)] at g1 g2 g3
 refine ⟨⟨g1, fun j hj => ?_⟩, g3⟩
 have := g2 j hj
 rw [he _ (by omega)] at this
 exact this
theorem zjC {f g : Nat -> Int} {W D : Nat} (he : ∀ i, i < 1 + D * (1 + W) -> f i = g i) (h : zhn f W D = true) : zhn g W D = true := by
 obtain ⟨h1, h2⟩ := qst_iff.1 h
 rw [he 0 (by omega)] at h1 h2
 exact qst_iff.2 ⟨h1, zmQ (fun i hi => he _ (by omega)) h2⟩
theorem zjB {f g : Nat -> Int} {W D : Nat} (he : ∀ i, i < 3 + D * (1 + W) -> f i = g i) (h : zd4 f W D = true) : zd4 g W D = true := by
 obtain ⟨h1, h2, h3, h4⟩ := qpt_iff.1 h
 rw [he 0 (by omega)] at h1 h3 h4
 rw [he 1 (by omega)] at h2 h3 h4
 exact qpt_iff.2 ⟨h1, h2, h3, zmQ (fun i hi => he _ (by omega)) h4⟩
theorem zgQ {x : Channel} (hx : zbJ x) {f g : Nat -> Int} (he : ∀ i, i < stg x -> f i = g i) (h : stB x f = true) : stB x g = true := by
 unfold stB at h ⊢
 rcases hx.kind with hk | hk
 . rw [if_neg (by omega)] at h ⊢
   rw [znU hk] at he
   rw [← zbY (.inl rfl) he]; exact h
 . rw [if_pos hk] at h ⊢
   rw [zuD hk] at he
   exact zjC he h
theorem zeq {x : Channel} (hx : zbJ x) {f g : Nat -> Int} (he : ∀ i, i < prt x -> f i = g i) (h : ptB x f = true) : ptB x g = true := by
 unfold ptB at h ⊢
 rcases hx.kind with hk | hk
 . rw [if_neg (by omega)] at h ⊢
   rw [zt0 hk] at he
   rw [← zbY (.inr rfl) he]; exact h
 . rw [if_pos hk] at h ⊢
   rw [zt1 hk] at he
   exact zjB he h
theorem zpe (W D first : Nat) : zgR (fun _ => 0) W D first 0 = true := zqJ fun i hi => okQ_iff.2 ⟨⟨by omega, fun _ _ => rfl⟩, by omega⟩
theorem zBT {x : Channel} (hx : zbJ x) {f : Nat -> Int} (hz : ∀ i, i < stg x -> f i = 0) : stB x f = true := by
 refine zgQ hx (f := fun _ => 0) (fun i hi => (hz i hi).symm) ?_
 unfold stB
 split
 . exact qst_iff.2 ⟨by omega, zpe _ _ _⟩
 . exact zjG fun _ _ => rfl
theorem zBl {x : Channel} (hx : zbJ x) {f : Nat -> Int} (hz : ∀ i, i < prt x -> f i = 0) : ptB x f = true := by
 refine zeq hx (f := fun _ => 0) (fun i hi => (hz i hi).symm) ?_
 unfold ptB
 split
 . rename_i h
   have := (hx.depth.1 h).1
   exact qpt_iff.2 ⟨by show (0 : Int) < _; omega, by omega, .inr rfl, zpe _ _ _⟩
 . exact zjG fun _ _ => rfl
section
variable {f : Nat -> Int} {q : Nat -> Nat} {n : Nat} {h : Nat -> Nat -> Int}
theorem zgv {i : Nat} : ∀ k, (∀ j, j < k -> ¬ (q j <= i /\ i < q j + n)) -> zas f (fun j g => over g (q j) n (h j)) k i = f i
 | 0, _ => rfl
 | k + 1, hn => by
  show over (zas f (fun j g => over g (q j) n (h j)) k) (q k) n (h k) i = f i
  rw [zaD (hn k (by omega)), zgv k fun j hj => hn j (by omega)]
theorem zhP {j i : Nat} (hi : i < n) : ∀ k, j < k -> (∀ a b, a < k -> b < a -> q b + n <= q a ∨ q a + n <= q b) -> zas f (fun j g => over g (q j) n (h j)) k (q j + i) = h j i
 | 0, hj, _ => absurd hj (by omega)
 | k + 1, hj, hd => by
  show over (zas f (fun j g => over g (q j) n (h j)) k) (q k) n (h k) (q j + i) = h j i
  by_cases hjk : j = k
  . subst hjk; exact zdf hi
  . have := hd k j (by omega) (by omega)
    rw [zaD (by omega), zhP hi k (by omega) fun a b ha hb => hd a b (by omega) hb]
end
noncomputable def ziB (x : Channel) (a k : Nat) (ps : Nat -> Nat) (f : Nat -> Int) : Nat -> Int :=
 if x.kind = 2 then over (zas f (opQ f ps x.words.toNat x.depth.toNat (stM (fun i => f (a + i)) x.words.toNat x.depth.toNat)) k) a (1 + x.depth.toNat * (1 + x.words.toNat)) (zgj x.depth.toNat x.words.toNat [])
 else if stN (fun i => f (a + i)) 2 x.words.toNat = 0 then zas f (zkD ps) k
 else over (zas f (zg0 ps x.words.toNat (stN (fun i => f (a + i)) 2 x.words.toNat) fun i => f (a + (2 + i))) k) a (2 + x.words.toNat) fun _ => 0
structure zlm (x : Channel) (a k : Nat) (ps : Nat -> Nat) (f f' : Nat -> Int) : Prop where
 u : U32 f'
 st : stB x (fun i => f' (a + i)) = true
 pt : ∀ j, j < k -> ptB x (fun i => f' (ps j + i)) = true
 out : ∀ i, ¬ (a <= i /\ i < a + stg x) -> (∀ j, j < k -> ¬ (ps j <= i /\ i < ps j + prt x)) -> f' i = f i
theorem zMx {f : Nat -> Int} {W : Nat} (hok : zaT f 2 W = true) : stN f 2 W <= W := by
 unfold stN zc3
 cases c1 : (List.range (2 + W)).any fun i => !(f i == 0) with
 | false => exact Nat.zero_le _
 | true =>
  cases c2 : zoU f 2 W with
  | false => exact Nat.zero_le _
  | true =>
   simp only [cnT, zB]
   unfold zoU zcw at c2
   simp only [Bool.and_eq_true, decide_eq_true_eq] at c2
   omega
theorem zBx {f : Nat -> Int} {W : Nat} (h : zaT f 3 W = true) : zaT (fun i => if i = 1 then 0 else f i) 3 W = true := by
 unfold zaT at h ⊢
 rw [Bool.or_eq_true] at h ⊢
 rcases h with h | h
 . left
   rw [Bool.not_eq_true', any_f] at h ⊢
   intro i hi
   have := h i hi
   simp only
   split
   . rfl
   . exact this
 . right
   simp only [Bool.and_eq_true] at h ⊢
   obtain ⟨⟨h1, h2⟩, h3⟩ := h
   refine ⟨⟨by simpa using h1, by simp⟩, ?_⟩
   unfold zcw at h3 ⊢
   have e : (List.range (W - (if (3 - 1 = 1) then (0 : Int) else f (3 - 1)).toNat)).any (fun i => !((if 3 + (if (3 - 1 = 1) then (0 : Int) else f (3 - 1)).toNat + i = 1 then (0 : Int) else f (3 + (if (3 - 1 = 1) then (0 : Int) else f (3 - 1)).toNat + i)) == 0)) = (List.range (W - (f (3 - 1)).toNat)).any (fun i => !(f (3 + (f (3 - 1)).toNat + i) == 0)) := by
    rw [if_neg (by decide)]
    refine zlp fun i hi => ?_
    rw [if_neg (by omega)]
   rw [e]
   simpa using h3
section
variable {F : Nat} {f : Nat -> Int} (hf : U32 f) (hF : F <= 1024) {x : Channel} (hx : zbJ x) {a k : Nat} (hk1 : 1 <= k) (hk : k <= 4) {ps : Nat -> Nat} (hA : zzz (16 * F) a (stg x) (prt x) k ps) (hs : stB x (fun i => f (a + i)) = true) (hp : ∀ j, j < k -> ptB x (fun i => f (ps j + i)) = true)
include hf hF hx hk1 hk hA hs hp
theorem zM6 (h2 : x.kind = 2) : zjS ⟨⟨(a : Int), x.words, mk k fun j => (ps j : Int)⟩, x.depth⟩ (mk (16 * F) f) = some (0, ⟨mk (16 * F) (ziB x a k ps f)⟩) /\ zlm x a k ps f (ziB x a k ps f) := by
 obtain ⟨w1, w2⟩ := hx.words
 obtain ⟨d1, d2⟩ := hx.depth.1 h2
 have hA' := hA
 rw [zuD h2, zt1 h2] at hA
 obtain ⟨W, hW⟩ : ∃ W : Nat, x.words = (W : Int) := ⟨x.words.toNat, by omega⟩
 obtain ⟨D, hD⟩ : ∃ D : Nat, x.depth = (D : Int) := ⟨x.depth.toNat, by omega⟩
 have eW : x.words.toNat = W := by omega
 have eD : x.depth.toNat = D := by omega
 have eT : ziB x a k ps f = over (zas f (opQ f ps W D (stM (fun i => f (a + i)) W D)) k) a (1 + D * (1 + W)) (zgj D W []) := by unfold ziB; rw [if_pos h2, eW, eD]
 have eS : stg x = 1 + D * (1 + W) := by rw [zuD h2, eW, eD]
 have eP : prt x = 3 + D * (1 + W) := by rw [zt1 h2, eW, eD]
 have bS : ∀ g, stB x g = zhn g W D := fun g => by unfold stB; rw [if_pos h2, eW, eD]
 have bP : ∀ g, ptB x g = zd4 g W D := fun g => by unfold ptB; rw [if_pos h2, eW, eD]
 rw [eW, eD] at hA
 rw [bS] at hs
 have hp' : ∀ j, j < k -> zd4 (fun i => f (ps j + i)) W D = true := fun j hj => by rw [← bP]; exact hp j hj
 obtain ⟨s1, s2, _⟩ := zsa (hf.sh a) hs
 obtain ⟨q1, q2⟩ := zk (zL8 hf (W := W) (D := D) (by omega) (by omega) (by omega) (by omega) (N := 16 * F) (by omega) hk hA.stage hA.port hs hp')
 have q1' : zpw (a : Int) (W : Int) (D : Int) (mk k fun j => (ps j : Int)) (mk (16 * F) f) = _ := q1
 have q2' : zr2 (a : Int) (W : Int) (D : Int) (mk k fun j => (ps j : Int)) (mk (16 * F) f) = true := q2
 constructor
 . unfold zjS zl7
   simp only [hW, hD, q1', q2', cnT, id, eT]
 . rw [eT]
   have hw : ∀ j, j < k -> zd4 (zmL (fun i => f (ps j + i)) W D (stM (fun i => f (a + i)) W D)) W D = true /\ U32 (zmL (fun i => f (ps j + i)) W D (stM (fun i => f (a + i)) W D)) := fun j hj => ztY (hf.sh (ps j)) (by omega) (by omega) (hp' j hj) s1
   have nil : ∀ m ∈ ([] : List (List Int)), zbQ W m := fun m hm => absurd hm List.not_mem_nil
   refine ⟨zcX (zlc hf (W := W) (D := D) (by omega) (by omega) (by omega) (by omega) (N := 16 * F) (by omega) hk (fun j g hj hg => zcX hg fun i hi => (hw j hj).2 i) k (Nat.le_refl _)) fun i hi => zuB nil (Nat.zero_le _) (by omega) (by omega) i, ?_, fun j hj => ?_, fun i h1 h2 => ?_⟩
   . rw [bS]
     exact zjC (fun i hi => (zdf hi).symm) (zqb nil (Nat.zero_le _))
   . rw [bP]
     refine zjB (fun i hi => ?_) (hw j hj).1
     have := hA.sp j hj
     rw [zaD (by omega)]
     exact (zhP (h := fun j => zmL (fun i => f (ps j + i)) W D (stM (fun i => f (a + i)) W D)) hi k hj hA.pp).symm
   . rw [eS] at h1
     rw [eP] at h2
     rw [zaD h1]
     exact zgv (h := fun j => zmL (fun i => f (ps j + i)) W D (stM (fun i => f (a + i)) W D)) k h2
theorem zM7 (h2 : x.kind = 1) : zjU ⟨⟨(a : Int), x.words, mk k fun j => (ps j : Int)⟩⟩ (mk (16 * F) f) = some (0, ⟨mk (16 * F) (ziB x a k ps f)⟩) /\ zlm x a k ps f (ziB x a k ps f) := by
 obtain ⟨w1, w2⟩ := hx.words
 rw [znU h2, zt0 h2] at hA
 obtain ⟨W, hW⟩ : ∃ W : Nat, x.words = (W : Int) := ⟨x.words.toNat, by omega⟩
 have eW : x.words.toNat = W := by omega
 have eT : ziB x a k ps f = if stN (fun i => f (a + i)) 2 W = 0 then zas f (zkD ps) k else over (zas f (zg0 ps W (stN (fun i => f (a + i)) 2 W) fun i => f (a + (2 + i))) k) a (2 + W) fun _ => 0 := by unfold ziB; rw [if_neg (by omega), eW]
 have eS : stg x = 2 + W := by rw [znU h2, eW]
 have eP : prt x = 3 + W := by rw [zt0 h2, eW]
 have bS : ∀ g, stB x g = zaT g 2 W := fun g => by unfold stB; rw [if_neg (by omega), eW]
 have bP : ∀ g, ptB x g = zaT g 3 W := fun g => by unfold ptB; rw [if_neg (by omega), eW]
 rw [eW] at hA
 rw [bS] at hs
 have hp' : ∀ j, j < k -> zaT (fun i => f (ps j + i)) 3 W = true := fun j hj => by rw [← bP]; exact hp j hj
 obtain ⟨q1, q2⟩ := zk (zMh hf hF (W := W) (by omega) (by omega) hk1 hk hA hs hp')
 have q1' : zpA (a : Int) (W : Int) (mk k fun j => (ps j : Int)) (mk (16 * F) f) = _ := q1
 have q2' : zr6 (a : Int) (W : Int) (mk k fun j => (ps j : Int)) (mk (16 * F) f) = true := q2
 constructor
 . unfold zjU zmf
   simp only [hW, q1', q2', cnT, id, eT]
 . rw [eT]
   have hnl := zMx hs
   by_cases c : stN (fun i => f (a + i)) 2 W = 0
   . rw [if_pos c]
     have hq : ∀ i j, i < k -> j < i -> (ps j + 1) + 1 <= ps i + 1 ∨ (ps i + 1) + 1 <= ps j + 1 := fun i j hi hj => by have := hA.pp i j hi hj; omega
     have hout : ∀ i, (∀ j, j < k -> ¬ (ps j + 1 <= i /\ i < ps j + 1 + 1)) -> zas f (zkD ps) k i = f i := fun i h => zgv (q := fun j => ps j + 1) (n := 1) (h := fun _ _ => 0) k h
     refine ⟨zlc hf (W := W) (D := 1) (by omega) (by omega) (by omega) (by omega) (N := 16 * F) (by omega) hk (fun j g hj hg => zcX hg fun i hi => by omega) k (Nat.le_refl _), ?_, fun j hj => ?_, fun i g1 g2 => ?_⟩
     . rw [bS, zbY (.inl rfl) fun i hi => hout (a + i) fun j hj => by have := hA.sp j hj; omega]
       exact hs
     . rw [bP, zbY (g := fun i => if i = 1 then 0 else f (ps j + i)) (.inr rfl) fun i hi => ?_]
       . exact zBx (hp' j hj)
       . by_cases h1 : i = 1
         . subst h1
           rw [if_pos rfl]
           exact zhP (q := fun j => ps j + 1) (n := 1) (h := fun _ _ => 0) (i := 0) (by omega) k hj hq
         . rw [if_neg h1]
           refine hout _ fun j' hj' => ?_
           by_cases e : j' = j
           . subst e; omega
           . rcases Nat.lt_or_gt_of_ne e with l | l
             . have := hA.pp j j' hj l; omega
             . have := hA.pp j' j hj' l; omega
     . rw [eP] at g2
       exact hout i fun j hj => by have := g2 j hj; omega
   . rw [if_neg c]
     generalize hn : stN (fun i => f (a + i)) 2 W = n at *
     have hu : U32 (zaQ 3 n (hd3 n) fun i => f (a + (2 + i))) := fun i => by
      unfold zaQ hd3
      split
      . split
        . constructor <;> omega
        . omega
      . split
        . exact hf _
        . omega
     refine ⟨zcX (zlc hf (W := W) (D := 1) (by omega) (by omega) (by omega) (by omega) (N := 16 * F) (by omega) hk (fun j g hj hg => zcX hg fun i hi => hu i) k (Nat.le_refl _)) fun i hi => by omega, ?_, fun j hj => ?_, fun i g1 g2 => ?_⟩
     . rw [bS]
       exact zjG fun i hi => zdf hi
     . rw [bP, zbY (g := zaQ 3 n (hd3 n) fun i => f (a + (2 + i))) (.inr rfl) fun i hi => ?_]
       . exact zjF (.inr rfl) (by omega) hnl _ _ rfl (fun _ => by unfold hd3; rw [if_neg (by decide)]; omega) rfl
       . have := hA.sp j hj
         rw [zaD (by omega)]
         exact zhP (h := fun _ => zaQ 3 n (hd3 n) fun i => f (a + (2 + i))) hi k hj hA.pp
     . rw [eS] at g1
       rw [eP] at g2
       rw [zaD g1]
       exact zgv (h := fun _ => zaQ 3 n (hd3 n) fun i => f (a + (2 + i))) k g2
end
theorem zBq {N : Nat} {f : Nat -> Int} {a : Nat} (hN : N <= 100000) (ha : a < N) : zry (some ⟨mk N f⟩) (a : Int) = some (f a, 0) := by
 obtain ⟨k1, k2⟩ := zk (ziy (f := f) hN (show a + 1 <= N from ha))
 have k1' : zfg (some ⟨mk N f⟩) (a : Int) 1 = 0 := k1
 have k2' : zft (some ⟨mk N f⟩) (a : Int) 1 = true := k2
 have h0 : (some (⟨mk N f⟩ : MemMemory)).getD default = ⟨mk N f⟩ := rfl
 unfold zry zmk
 rw [k1', k2', h0]
 simp only [cnT, beq_self_eq_true, Bool.not_true, cnF, zB, zh ha, tnC, zaU ha, id]
 rfl
structure zgr (B : (Nat -> Int) -> Bool) (a n : Nat) (f f' : Nat -> Int) : Prop where
 u : U32 f'
 ok : B (fun i => f' (a + i)) = true
 out : ∀ i, ¬ (a <= i /\ i < a + n) -> f' i = f i
section
variable {F : Nat} {f : Nat -> Int} (hf : U32 f) (hF : F <= 1024) {x : Channel} (hx : zbJ x) {a : Nat}
include hf hF hx
theorem zMi (h2 : x.kind = 2) (ha : a + stg x <= 16 * F) (hs : stB x (fun i => f (a + i)) = true) {m : List Int} (hm : zbQ x.words.toNat m) (l : List Int) :
 ∃ b f', zrk ⟨⟨(a : Int), x.words, l⟩, x.depth⟩ m (mk (16 * F) f) = some (b, 0, ⟨mk (16 * F) f'⟩) /\ zgr (stB x) a (stg x) f f' /\ (b = false -> f' = f) := by
 obtain ⟨w1, w2⟩ := hx.words
 obtain ⟨d1, d2⟩ := hx.depth.1 h2
 obtain ⟨W, hW⟩ : ∃ W : Nat, x.words = (W : Int) := ⟨x.words.toNat, by omega⟩
 obtain ⟨D, hD⟩ : ∃ D : Nat, x.depth = (D : Int) := ⟨x.depth.toNat, by omega⟩
 have eW : x.words.toNat = W := by omega
 have eD : x.depth.toNat = D := by omega
 have eS : stg x = 1 + D * (1 + W) := by rw [zuD h2, eW, eD]
 have bS : ∀ g, stB x g = zhn g W D := fun g => by unfold stB; rw [if_pos h2, eW, eD]
 rw [eS] at ha ⊢
 have hs0 := hs
 rw [bS] at hs
 rw [eW] at hm
 obtain ⟨s1, s2, _⟩ := zsa (hf.sh a) hs
 obtain ⟨q1, q2⟩ := zk (zL9 hf (W := W) (D := D) (by omega) (by omega) (by omega) (by omega) (N := 16 * F) (by omega) ha hs hm)
 have q1' : zkJ (a : Int) (W : Int) (D : Int) m (mk (16 * F) f) = _ := q1
 have q2' : zr0 (a : Int) (W : Int) (D : Int) m (mk (16 * F) f) = true := q2
 unfold zrk zl5
 simp only [hW, hD, q1', q2', cnT, id]
 by_cases c : (stM (fun i => f (a + i)) W D).length = D
 . rw [if_pos c]
   exact ⟨false, f, rfl, ⟨hf, hs0, fun i _ => rfl⟩, fun _ => rfl⟩
 . rw [if_neg c]
   have hms' : ∀ y ∈ stM (fun i => f (a + i)) W D ++ [m], zbQ W y := fun y hy => by
    rcases List.mem_append.1 hy with h | h
    . exact s1 y h
    . rw [List.mem_singleton.1 h]; exact hm
   have hl' : (stM (fun i => f (a + i)) W D ++ [m]).length <= D := by rw [List.length_append, List.length_singleton]; omega
   refine ⟨true, _, rfl, ⟨zcX hf fun i hi => zuB hms' hl' (by omega) (by omega) i, ?_, fun i hi => zaD hi⟩, fun h => absurd h (by decide)⟩
   rw [bS]
   exact zjC (fun i hi => (zdf hi).symm) (zqb hms' hl')
theorem zMj (h2 : x.kind = 1) (ha : a + stg x <= 16 * F) (hs : stB x (fun i => f (a + i)) = true) {m : List Int} (hm : zbQ x.words.toNat m) (l : List Int) :
 ∃ f', zjT ⟨⟨(a : Int), x.words, l⟩⟩ m (mk (16 * F) f) = some (true, 0, ⟨mk (16 * F) f'⟩) /\ zgr (stB x) a (stg x) f f' := by
 obtain ⟨w1, w2⟩ := hx.words
 obtain ⟨W, hW⟩ : ∃ W : Nat, x.words = (W : Int) := ⟨x.words.toNat, by omega⟩
 have eW : x.words.toNat = W := by omega
 have eS : stg x = 2 + W := by rw [znU h2, eW]
 have bS : ∀ g, stB x g = zaT g 2 W := fun g => by unfold stB; rw [if_neg (by omega), eW]
 rw [eS] at ha ⊢
 rw [bS] at hs
 rw [eW] at hm
 obtain ⟨m1, m2, m3⟩ := hm
 obtain ⟨q1, q2⟩ := zk (zBP hf hF (a := a) (W := W) (by omega) (by omega) ha m1 m2 (zN m) hs)
 rw [← zAV (l := m) rfl] at q1 q2
 have q1' : zkL (a : Int) (W : Int) m (mk (16 * F) f) = _ := q1
 have q2' : znK (a : Int) (W : Int) m (mk (16 * F) f) = true := q2
 unfold zjT zjf
 simp only [hW, q1', q2', cnT, id]
 have hu : U32 (zaQ 2 m.length (hd2 m.length) (zN m)) := fun i => by
  unfold zaQ hd2
  split
  . split
    . omega
    . constructor <;> omega
  . split
    . exact m3 _
    . omega
 refine ⟨_, rfl, zcX hf fun i hi => hu i, ?_, fun i hi => zaD hi⟩
 rw [bS, zbY (g := zaQ 2 m.length (hd2 m.length) (zN m)) (.inl rfl) fun i hi => zdf hi]
 exact zjF (.inl rfl) m1 m2 _ _ rfl (fun h => absurd h (by decide)) rfl
theorem zM4 (h2 : x.kind = 2) (ha : a + prt x <= 16 * F) (hs : ptB x (fun i => f (a + i)) = true) :
 ∃ b f', zup (a : Int) x.words x.depth (mk (16 * F) f) = some (b, 0, ⟨mk (16 * F) f'⟩) /\ zgr (ptB x) a (prt x) f f' := by
 obtain ⟨w1, w2⟩ := hx.words
 obtain ⟨d1, d2⟩ := hx.depth.1 h2
 obtain ⟨W, hW⟩ : ∃ W : Nat, x.words = (W : Int) := ⟨x.words.toNat, by omega⟩
 obtain ⟨D, hD⟩ : ∃ D : Nat, x.depth = (D : Int) := ⟨x.depth.toNat, by omega⟩
 have eW : x.words.toNat = W := by omega
 have eD : x.depth.toNat = D := by omega
 have eS : prt x = 3 + D * (1 + W) := by rw [zt1 h2, eW, eD]
 have bS : ∀ g, ptB x g = zd4 g W D := fun g => by unfold ptB; rw [if_pos h2, eW, eD]
 rw [eS] at ha ⊢
 have hs0 := hs
 rw [bS] at hs
 obtain ⟨s1, s2, _⟩ := zvl (hf.sh a) hs
 rw [hW, hD, zFS hf (W := W) (D := D) (by omega) (by omega) (by omega) (by omega) (N := 16 * F) (by omega) ha hs]
 by_cases c : (ptM (fun i => f (a + i)) W D).length = 0
 . rw [if_pos c]
   exact ⟨false, f, rfl, hf, hs0, fun i _ => rfl⟩
 . rw [if_neg c]
   have hms' : ∀ y ∈ (ptM (fun i => f (a + i)) W D).drop 1, zbQ W y := fun y hy => s1 y (List.mem_of_mem_drop hy)
   have hl' : ((ptM (fun i => f (a + i)) W D).drop 1).length <= D := by rw [List.length_drop]; omega
   have hfi : ((f (a + 0)).toNat + 1) % D < D := Nat.mod_lt _ (by omega)
   refine ⟨true, _, rfl, zcX hf fun i hi => zwj hms' hl' hfi (by omega) (by omega) (hf _) i, ?_, fun i hi => zaD hi⟩
   rw [bS]
   exact zjB (fun i hi => (zdf hi).symm) (ztX hms' hl' hfi)
theorem zMz (h2 : x.kind = 2) (l : List Int) {b : Nat} (ha : b + stg x <= 16 * F) (hs : stB x (fun i => f (b + i)) = true) :
 ∃ r, zrl ⟨⟨(b : Int), x.words, l⟩, x.depth⟩ (mk (16 * F) f) = some (r, 0, ⟨mk (16 * F) f⟩) := by
 obtain ⟨w1, w2⟩ := hx.words
 obtain ⟨d1, d2⟩ := hx.depth.1 h2
 obtain ⟨W, hW⟩ : ∃ W : Nat, x.words = (W : Int) := ⟨x.words.toNat, by omega⟩
 obtain ⟨D, hD⟩ : ∃ D : Nat, x.depth = (D : Int) := ⟨x.depth.toNat, by omega⟩
 have eW : x.words.toNat = W := by omega
 have eD : x.depth.toNat = D := by omega
 rw [zuD h2, eW, eD] at ha
 unfold stB at hs
 rw [if_pos h2, eW, eD] at hs
 obtain ⟨q1, q2⟩ := zk (zy5 hf (W := W) (D := D) (by omega) (by omega) (by omega) (by omega) (N := 16 * F) (by omega) ha hs)
 have q1' : zkK (b : Int) (W : Int) (D : Int) (mk (16 * F) f) = _ := q1
 have q2' : zr1 (b : Int) (W : Int) (D : Int) (mk (16 * F) f) = true := q2
 unfold zrl zl6
 simp only [hW, hD, q1', q2', cnT, id]
 exact ⟨_, rfl⟩
theorem zAF (h2 : x.kind = 2) (s : Int) (l : List Int) (ha : a + prt x <= 16 * F) (hs : ptB x (fun i => f (a + i)) = true) :
 (∃ m w b, zrj ⟨⟨s, x.words, l⟩, x.depth⟩ (a : Int) (mk (16 * F) f) = some (m, w, b, 0, ⟨mk (16 * F) f⟩)) /\ ∃ v w, zri ⟨⟨s, x.words, l⟩, x.depth⟩ (a : Int) (mk (16 * F) f) = some (v, w, 0, ⟨mk (16 * F) f⟩) := by
 obtain ⟨w1, w2⟩ := hx.words
 obtain ⟨d1, d2⟩ := hx.depth.1 h2
 obtain ⟨W, hW⟩ : ∃ W : Nat, x.words = (W : Int) := ⟨x.words.toNat, by omega⟩
 obtain ⟨D, hD⟩ : ∃ D : Nat, x.depth = (D : Int) := ⟨x.depth.toNat, by omega⟩
 have eW : x.words.toNat = W := by omega
 have eD : x.depth.toNat = D := by omega
 rw [zt1 h2, eW, eD] at ha
 unfold ptB at hs
 rw [if_pos h2, eW, eD] at hs
 obtain ⟨q1, q2⟩ := zk (zFR hf (W := W) (D := D) (by omega) (by omega) (by omega) (by omega) (N := 16 * F) (by omega) ha hs)
 have q1' : zcQ (a : Int) (W : Int) (D : Int) (mk (16 * F) f) = _ := q1
 have q2' : zrZ (a : Int) (W : Int) (D : Int) (mk (16 * F) f) = true := q2
 obtain ⟨c1, c2⟩ := zk (zBn hf (W := W) (D := D) (by omega) (by omega) (by omega) (by omega) (N := 16 * F) (by omega) ha hs)
 have c1' : zet (a : Int) (W : Int) (D : Int) (mk (16 * F) f) = _ := c1
 have c2' : znH (a : Int) (W : Int) (D : Int) (mk (16 * F) f) = true := c2
 constructor
 . unfold zrj zl4
   simp only [hW, hD, q1', q2', c1', c2', cnT, id, beq_self_eq_true, Bool.not_true, cnF]
   cases decide (1 <= (ptM (fun i => f (a + i)) W D).length)
   . exact ⟨_, _, _, rfl⟩
   . exact ⟨_, _, _, rfl⟩
 . unfold zri zl3
   simp only [hW, hD, c1', c2', cnT, id]
   exact ⟨_, _, rfl⟩
theorem zMA (h2 : x.kind = 1) (l : List Int) {b : Nat} (ha : b + stg x <= 16 * F) (hs : stB x (fun i => f (b + i)) = true) :
 ∃ r, zru ⟨⟨(b : Int), x.words, l⟩⟩ (some ⟨mk (16 * F) f⟩) = some (r, 0) := by
 obtain ⟨w1, w2⟩ := hx.words
 obtain ⟨W, hW⟩ : ∃ W : Nat, x.words = (W : Int) := ⟨x.words.toNat, by omega⟩
 have eW : x.words.toNat = W := by omega
 rw [znU h2, eW] at ha
 unfold stB at hs
 rw [if_neg (by omega), eW] at hs
 obtain ⟨r, hr⟩ := zzr hf (N := 16 * F) (a := b) (W := W) (by omega) (by omega) (by omega) ha
 rw [hs] at hr
 obtain ⟨q1, q2⟩ := zk hr
 have q1' : zpz (some ⟨mk (16 * F) f⟩) (b : Int) (W : Int) = (r, 0) := q1
 have q2' : zr5 (some ⟨mk (16 * F) f⟩) (b : Int) (W : Int) = true := q2
 unfold zru zme
 simp only [hW, q1', q2', cnT, id]
 exact ⟨_, rfl⟩
theorem zAG (h2 : x.kind = 1) (s : Int) (l : List Int) (ha : a + prt x <= 16 * F) (hs : ptB x (fun i => f (a + i)) = true) :
 (∃ m w b, zhz ⟨⟨s, x.words, l⟩⟩ (some ⟨mk (16 * F) f⟩) (a : Int) = some (m, w, b, 0)) /\ ∃ v w, zrt ⟨⟨s, x.words, l⟩⟩ (some ⟨mk (16 * F) f⟩) (a : Int) = some (v, w, 0) := by
 obtain ⟨w1, w2⟩ := hx.words
 obtain ⟨W, hW⟩ : ∃ W : Nat, x.words = (W : Int) := ⟨x.words.toNat, by omega⟩
 have eW : x.words.toNat = W := by omega
 rw [zt0 h2, eW] at ha
 unfold ptB at hs
 rw [if_neg (by omega), eW] at hs
 obtain ⟨k1, k2⟩ := zk (zix hf (N := 16 * F) (by omega) (h := 3) (.inr rfl) (W := W) (by omega) ha)
 rw [hs] at k1
 have k1' : za4 (some ⟨mk (16 * F) f⟩) (a : Int) (W : Int) 3 = (zc3 (fun i => f (a + i)) 3 W, 0) := k1
 have k2' : zcA (some ⟨mk (16 * F) f⟩) (a : Int) (W : Int) 3 = true := k2
 obtain ⟨r1, r2⟩ := zk (zBq (f := f) (N := 16 * F) (a := a + 1) (by omega) (by omega))
 have e1 : i64.wrap ((a : Int) + 1) = ((a + 1 : Nat) : Int) := zf a (by omega)
 have r1' : zpB (some ⟨mk (16 * F) f⟩) ((a + 1 : Nat) : Int) = (f (a + 1), 0) := r1
 have r2' : znL (some ⟨mk (16 * F) f⟩) ((a + 1 : Nat) : Int) = true := r2
 have hR : ∃ m w b, zjV (some ⟨mk (16 * F) f⟩) (a : Int) (W : Int) = some (m, w, b, 0) := by
  unfold zjV zjg
  rw [ztP hf _ (by omega) (by omega), e1]
  simp only [k1', k2', r1', r2', beq_self_eq_true, Bool.not_true, cnT, cnF, id]
  cases ((zc3 (fun i => f (a + i)) 3 W).length : Int) == 0
  . exact ⟨_, _, _, rfl⟩
  . exact ⟨_, _, _, rfl⟩
 obtain ⟨m, w, b, hR⟩ := hR
 obtain ⟨q1, q2⟩ := zk hR
 have q1' : zf5 (some ⟨mk (16 * F) f⟩) (a : Int) (W : Int) = (m, w, b, 0) := q1
 have q2' : znJ (some ⟨mk (16 * F) f⟩) (a : Int) (W : Int) = true := q2
 have hL : zhz ⟨⟨s, (W : Int), l⟩⟩ (some ⟨mk (16 * F) f⟩) (a : Int) = some (m, zpy w, b, 0) := by
  unfold zhz zje
  simp only [q1', q2', cnT, id]
 obtain ⟨l1, l2⟩ := zk hL
 have l1' : zc5 ⟨⟨s, (W : Int), l⟩⟩ (some ⟨mk (16 * F) f⟩) (a : Int) = _ := l1
 have l2' : zhA ⟨⟨s, (W : Int), l⟩⟩ (some ⟨mk (16 * F) f⟩) (a : Int) = true := l2
 rw [hW]
 refine ⟨⟨_, _, _, hL⟩, ?_⟩
 unfold zrt zmd
 simp only [l1', l2', cnT, id]
 exact ⟨_, _, rfl⟩
end
theorem zlt (c : Config) {i n : Nat} (h : i <= n) : cAt c i <= cAt c n := by
 induction n with
 | zero => rw [Nat.le_zero.1 h]; exact Nat.le_refl _
 | succ n ih =>
  by_cases hi : i <= n
  . have := ih hi
    show cAt c i <= cAt c n + 2 + stg (Ch c n) + (dl c n).length * prt (Ch c n)
    omega
  . obtain rfl : i = n + 1 := by omega
    exact Nat.le_refl _
theorem zIc (c : Config) : ∀ n, tF c 0 <= tF c n
 | 0 => Nat.le_refl _
 | n + 1 => Nat.le_trans (zIc c n) (by show tF c n <= tF c n + _; omega)
noncomputable def psC (c : Config) (k j : Nat) : Nat := dAt c k + j * prt (Ch c k)
noncomputable def sAt (c : Config) (k : Nat) : Nat := cAt c k + 2
noncomputable def kD (c : Config) (k : Nat) : Nat := (dl c k).length
section
variable {c : Config} (g : zaC c) (w : zuN c)
include g w
theorem zsf : 16 * tF c (nP c) <= nW c /\ nW c <= 16384 := by
 have h2 := w.need
 have h3 := w.room
 have h4 := g.frames
 have h5 := w.kernel
 unfold nW; omega
theorem zDY : cAt c (nC c) <= nW c := by
 have h1 := (zsf g w).1
 have h2 := zIc c (nP c)
 have h3 : tF c 0 = (cAt c (nC c) + 15) / 16 := rfl
 omega
theorem zwa {k : Nat} (hk : k < nC c) : 1 <= kD c k /\ kD c k <= 4 := zvY g hk
theorem zMe {k : Nat} (hk : k < nC c) : cAt c (k + 1) <= nW c := Nat.le_trans (zlt c hk) (zDY g w)
end
theorem zdJ (c : Config) (k : Nat) : sAt c k = cAt c k + 2 := rfl
theorem zpc (c : Config) (k j : Nat) : sAt c k + stg (Ch c k) <= psC c k j := by
 have : dAt c k = cAt c k + 2 + stg (Ch c k) := rfl
 unfold psC sAt; omega
theorem zpb (c : Config) {k j : Nat} (hj : j < kD c k) : psC c k j + prt (Ch c k) <= cAt c (k + 1) := by
 have h2 : (j + 1) * prt (Ch c k) <= kD c k * prt (Ch c k) := Nat.mul_le_mul_right _ hj
 rw [Nat.add_mul, Nat.one_mul] at h2
 have h3 : dAt c k = cAt c k + 2 + stg (Ch c k) := rfl
 have h4 : cAt c (k + 1) = cAt c k + 2 + stg (Ch c k) + kD c k * prt (Ch c k) := rfl
 unfold psC; omega
theorem znR (c : Config) (k : Nat) : sAt c k + stg (Ch c k) <= cAt c (k + 1) := by
 have h4 : cAt c (k + 1) = cAt c k + 2 + stg (Ch c k) + kD c k * prt (Ch c k) := rfl
 unfold sAt; omega
theorem zBk (c : Config) {k i j : Nat} (h : j < i) : psC c k j + prt (Ch c k) <= psC c k i := by
 have h2 : (j + 1) * prt (Ch c k) <= i * prt (Ch c k) := Nat.mul_le_mul_right _ h
 rw [Nat.add_mul, Nat.one_mul] at h2
 unfold psC; omega
theorem zQM (c : Config) {k i j : Nat} (h : i ≠ j) : psC c k j + prt (Ch c k) <= psC c k i ∨ psC c k i + prt (Ch c k) <= psC c k j := by
 rcases Nat.lt_or_gt_of_ne h with l | l
 . exact .inr (zBk c l)
 . exact .inl (zBk c l)
theorem zmR (c : Config) {k k' : Nat} (h : k ≠ k') : cAt c (k + 1) <= cAt c k' ∨ cAt c (k' + 1) <= cAt c k := by
 rcases Nat.lt_or_gt_of_ne h with l | l
 . exact .inl (zlt c l)
 . exact .inr (zlt c l)
theorem zeZ {c : Config} (g : zaC c) (w : zuN c) {k : Nat} (hk : k < nC c) : zzz (nW c) (sAt c k) (stg (Ch c k)) (prt (Ch c k)) (kD c k) (psC c k) := by
 have h1 := zMe g w hk
 have h2 := znR c k
 refine ⟨by omega, fun j hj => ?_, fun i hi => .inl (zpc c k i), fun i j hi hj => .inl (zBk c hj)⟩
 have := zpb c hj
 omega
theorem ztZ (s : Nat) : ∀ (l : List LayoutEnd) (a j : Nat), j < l.length -> (a + j * s, s, (⟨8, (zF l j).partition, (zF l j).port⟩ : Owner)) ∈ zay s a l
 | [], _, _, h => by simp at h
 | e :: l, a, 0, h => by simp [zay, zF]
 | e :: l, a, j + 1, h => by
  have := ztZ s l (a + s) j (by simpa using h)
  have e1 : a + s + j * s = a + (j + 1) * s := by rw [Nat.add_mul, Nat.one_mul]; omega
  rw [e1] at this
  simp only [zay, List.mem_cons]
  right
  simpa [zF] using this
theorem zBe {c : Config} {x : Pc} (hx : x ∈ zaJ c) {a : Nat} (ha : inP x a = true) : own c a = x.2.2 := by
 unfold own
 cases h : (zaJ c).find? (fun x => inP x a) with
 | none =>
  rw [List.find?_eq_none] at h
  exact absurd ha (by simpa using h x hx)
 | some y =>
  have h1 := List.mem_of_find?_eq_some h
  have h2 := List.find?_some h
  rw [(ztI c).one h1 hx h2 ha]
theorem zo6 {c : Config} {k a : Nat} (hk : k < nC c) (h : sAt c k <= a /\ a < sAt c k + stg (Ch c k)) : own c a = ⟨7, (k : Int), 0⟩ := zBe (ref_mem.2 (.stage hk)) (inP_iff.2 h)
theorem ztT {c : Config} {k j a : Nat} (hk : k < nC c) (hj : j < kD c k) (h : psC c k j <= a /\ a < psC c k j + prt (Ch c k)) : own c a = ⟨8, (zF (dl c k) j).partition, (zF (dl c k) j).port⟩ :=
 zBe (ref_mem.2 (.port hk (ztZ (prt (Ch c k)) (dl c k) (dAt c k) j hj))) (inP_iff.2 h)
structure zcl (c : Config) (f : Nat -> Int) : Prop where
 u : U32 f
 st : ∀ k, k < nC c -> stB (Ch c k) (fun i => f (sAt c k + i)) = true
 pt : ∀ k, k < nC c -> ∀ j, j < kD c k -> ptB (Ch c k) (fun i => f (psC c k j + i)) = true
def zC0 (c : Config) (k a : Nat) : Prop := k < nC c /\ sAt c k <= a /\ a < sAt c k + stg (Ch c k)
def zIm (c : Config) (k j a : Nat) : Prop := k < nC c /\ j < kD c k /\ psC c k j <= a /\ a < psC c k j + prt (Ch c k)
section
variable {c : Config} (g : zaC c)
include g
theorem zoR : zcl c fun _ => 0 := ⟨fun i => by omega, fun k hk => zBT (g.chan k hk).1 fun _ _ => rfl, fun k hk j hj => zBl (g.chan k hk).1 fun _ _ => rfl⟩
theorem zyO {f f' : Nat -> Int} (hg : zcl c f) {k : Nat} (hk : k < nC c) (h : zlm (Ch c k) (sAt c k) (kD c k) (psC c k) f f') : zcl c f' := by
 have key : ∀ k', k' < nC c -> k' ≠ k -> ∀ i, cAt c k' <= i -> i < cAt c (k' + 1) -> f' i = f i := fun k' hk' hne i h1 h2 => by
  have hr := zmR c hne
  refine h.out i ?_ fun j hj => ?_
  . have := znR c k
    have e := zdJ c k
    omega
  . have h3 := zpb c hj
    have h4 := zpc c k j
    have e := zdJ c k
    omega
 refine ⟨h.u, fun k' hk' => ?_, fun k' hk' j hj => ?_⟩
 . by_cases e : k' = k
   . subst e; exact h.st
   . refine zgQ (g.chan k' hk').1 (fun i hi => ?_) (hg.st k' hk')
     have h1 := znR c k'
     have e1 := zdJ c k'
     exact (key k' hk' e _ (by omega) (by omega)).symm
 . by_cases e : k' = k
   . subst e; exact h.pt j hj
   . refine zeq (g.chan k' hk').1 (fun i hi => ?_) (hg.pt k' hk' j hj)
     have h1 := zpb c hj
     have h2 := zpc c k' j
     have e1 := zdJ c k'
     exact (key k' hk' e _ (by omega) (by omega)).symm
theorem zgx {f f' : Nat -> Int} (hg : zcl c f) {k : Nat} (hk : k < nC c) (h : zgr (stB (Ch c k)) (sAt c k) (stg (Ch c k)) f f') : zcl c f' := by
 refine ⟨h.u, fun k' hk' => ?_, fun k' hk' j hj => ?_⟩
 . by_cases e : k' = k
   . subst e; exact h.ok
   . refine zgQ (g.chan k' hk').1 (fun i hi => ?_) (hg.st k' hk')
     have h1 := znR c k'
     have h2 := znR c k
     have e1 := zdJ c k'
     have e2 := zdJ c k
     have hr := zmR c e
     exact (h.out _ (by omega)).symm
 . refine zeq (g.chan k' hk').1 (fun i hi => ?_) (hg.pt k' hk' j hj)
   have h1 := zpb c hj
   have h2 := zpc c k' j
   have h3 := znR c k
   have e1 := zdJ c k'
   have e2 := zdJ c k
   by_cases e : k' = k
   . subst e; exact (h.out _ (by omega)).symm
   . have hr := zmR c e
     exact (h.out _ (by omega)).symm
theorem zyN {f f' : Nat -> Int} (hg : zcl c f) {k j : Nat} (hk : k < nC c) (hj : j < kD c k) (h : zgr (ptB (Ch c k)) (psC c k j) (prt (Ch c k)) f f') : zcl c f' := by
 have h1 := zpb c hj
 have h2 := zpc c k j
 have e2 := zdJ c k
 refine ⟨h.u, fun k' hk' => ?_, fun k' hk' j' hj' => ?_⟩
 . refine zgQ (g.chan k' hk').1 (fun i hi => ?_) (hg.st k' hk')
   have h3 := znR c k'
   have e1 := zdJ c k'
   by_cases e : k' = k
   . subst e; exact (h.out _ (by omega)).symm
   . have hr := zmR c e
     exact (h.out _ (by omega)).symm
 . by_cases e : k' = k
   . subst e
     by_cases ej : j' = j
     . subst ej; exact h.ok
     . refine zeq (g.chan k' hk').1 (fun i hi => ?_) (hg.pt k' hk' j' hj')
       have := zQM c (k := k') ej
       exact (h.out _ (by omega)).symm
   . refine zeq (g.chan k' hk').1 (fun i hi => ?_) (hg.pt k' hk' j' hj')
     have h3 := zpb c hj'
     have h4 := zpc c k' j'
     have e1 := zdJ c k'
     have hr := zmR c e
     exact (h.out _ (by omega)).symm
end
theorem zol (c : Config) (q : Nat -> Nat -> Bool) {p i : Nat} : ∀ n, p < n -> i < zL c p -> q p i = true -> (⟨(p : Int), (i : Int)⟩ : LayoutEnd) ∈ zc2 c q n
 | 0, h, _, _ => absurd h (by omega)
 | n + 1, h, hi, hq => by
  rw [zc2, List.mem_append]
  by_cases e : p = n
  . right
    subst e
    unfold zcO
    exact List.mem_map.2 ⟨i, List.mem_filter.2 ⟨List.mem_range.2 hi, hq⟩, rfl⟩
  . exact .inl (zol c q n (by omega) hi hq)
theorem zfO {c : Config} {p q k : Nat} (hp : p < nP c) (hq : q < zL c p) (hc : (Pt c p q).channel = (k : Int)) (hs : (Pt c p q).source = false) : ∃ j, j < kD c k /\ zF (dl c k) j = ⟨(p : Int), (q : Int)⟩ := by
 have h := zol c (zax c (k : Int)) (p := p) (i := q) (nP c) hp hq (by unfold zax; rw [hc, hs]; simp)
 obtain ⟨j, hj, e⟩ := List.getElem_of_mem h
 refine ⟨j, hj, ?_⟩
 rw [← e]
 show ((zc2 c (zax c (k : Int)) (nP c))[j]?).getD default = _
 rw [List.getElem?_eq_getElem hj]; rfl
end Go.Proofs.YtganhedldgbfpaaGreatDoor
end
