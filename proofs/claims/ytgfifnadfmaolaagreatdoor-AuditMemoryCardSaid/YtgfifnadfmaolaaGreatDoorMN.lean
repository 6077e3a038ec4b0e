import Derived.Test.YtgfifnadfmaolaaGreatDoorQ8
import Derived.Test.YtgfifnadfmaolaaGreatDoorTE
set_option linter.unusedVariables false
set_option linter.unusedSimpArgs false
set_option linter.unusedSectionVars false
noncomputable section
open Go.IntKind (i64 u32)
namespace Go.Proofs.YtgfifnadfmaolaaGreatDoor
open Go.RowKit
def mk (N : Nat) (f : Nat -> Int) : List Int := (List.range N).map f
theorem zM (N : Nat) (f : Nat -> Int) : (mk N f).length = N := by simp [mk]
theorem zap {N i : Nat} (h : i < N) (f : Nat -> Int) : zx (mk N f) i = f i := by simp [zx, mk, List.getD, h]
theorem zBG {N i : Nat} (h : N <= i) (f : Nat -> Int) : zx (mk N f) i = 0 := by simp [zx, mk, List.getD, Nat.not_lt.2 h]
theorem zaC {N : Nat} {f g : Nat -> Int} (h : ∀ i, i < N -> f i = g i) : mk N f = mk N g := List.map_congr_left fun i hi => h i (List.mem_range.1 hi)
theorem zwg {l l' : List Int} (hl : l.length = l'.length) (h : ∀ i, i < l.length -> zx l i = zx l' i) : l = l' := by
 refine List.ext_getElem hl fun i h1 h2 => ?_
 have := h i h1
 simpa [zx, List.getD, h1, h2] using this
theorem zSv {l : List Int} {N : Nat} (h : l.length = N) : l = mk N (zx l) := zwg (by rw [zM, h]) fun i hi => by rw [zap (by omega)]
theorem zdw {N j : Nat} (h : j < N) (f : Nat -> Int) (y : Int) : List.set (mk N f) j y = mk N (fun i => if i = j then y else f i) := by
 refine zwg (by simp [zM]) fun i hi => ?_
 rw [List.length_set, zM] at hi
 rw [zap hi]
 have := zap hi f
 simp only [zx, List.getD, List.getElem?_set, zM] at this ⊢
 by_cases hij : j = i
 . subst hij; simp [h]
 . rw [if_neg hij, if_neg (fun e => hij e.symm)]; exact this
theorem ze3 (N : Nat) (y : Int) : List.replicate N y = mk N (fun _ => y) := by
 refine List.ext_getElem (by simp [mk]) fun i h1 h2 => ?_
 simp [mk]
theorem zbR {N k : Nat} (h : k <= N) (f : Nat -> Int) : (mk N f).take k = mk k f := by
 refine List.ext_getElem (by simp [mk]; omega) fun i h1 h2 => ?_
 simp [mk]
theorem zcH (N a : Nat) (f : Nat -> Int) : (mk N f).drop a = mk (N - a) (fun i => f (a + i)) := by
 refine List.ext_getElem (by simp [mk]) fun i h1 h2 => ?_
 simp [mk]
theorem zGn (N : Nat) (f : Nat -> Int) : mk N f ++ [f N] = mk (N + 1) f := by simp [mk, List.range_succ]
theorem zBF (N M : Nat) (f g : Nat -> Int) : mk N f ++ mk M g = mk (N + M) (fun i => if i < N then f i else g (i - N)) := by
 refine List.ext_getElem (by simp [mk]) fun i h1 h2 => ?_
 have h1' : i < N + M := by simpa [mk] using h1
 by_cases h : i < N
 . rw [List.getElem_append_left (by simpa [mk] using h)]; simp [mk, h]
 . rw [List.getElem_append_right (by simpa [mk] using h)]; simp [mk, h]
theorem zuv {xs ys : List Int} (h : ys.length = xs.length) : zfd xs 0 ys = ys := by simp [zfd, h]
theorem zHq {N n a : Nat} (h : a + n <= N) (f g : Nat -> Int) : zfd (mk N f) a (mk n g) = mk N (fun i => if a <= i /\ i < a + n then g (i - a) else f i) := by
 unfold zfd
 rw [zM, zbR (by omega), zcH, zBF, zBF]
 have : a + (n + (N - (a + n))) = N := by omega
 rw [this]
 refine zaC fun i hi => ?_
 by_cases h1 : i < a
 . rw [if_pos h1, if_neg (by omega)]
 . rw [if_neg h1]
   by_cases h2 : i - a < n
   . rw [if_pos h2, if_pos (by omega)]
   . rw [if_neg h2, if_neg (by omega)]
     exact congrArg f (by omega)
def U32 (f : Nat -> Int) : Prop := ∀ i, 0 <= f i /\ f i < 4294967296
theorem U32.w64 {f : Nat -> Int} (h : U32 f) (i : Nat) : i64.wrap (f i) = f i := by
 obtain ⟨h1, h2⟩ := h i
 exact z9 _ (by omega) (by omega)
theorem U32.sh {f : Nat -> Int} (h : U32 f) (a : Nat) : U32 fun i => f (a + i) := fun i => h (a + i)
theorem zd9 {n : Int} (h0 : 0 <= n) (h1 : n < 4294967296) : u32.wrap n = n := by
 simp [IntKind.wrap, IntKind.bits, IntKind.signed]; omega
theorem mkT {x : Int} (h0 : 0 <= x) (h1 : x <= 100000) {b : Nat} (hb : b <= 104) : (decide (x = x) && decide (0 <= x) && leB (x.toNat * b) 140737488355328) = true := by
 have : x.toNat * b <= 100000 * 104 := Nat.mul_le_mul (by omega) hb
 rw [decide_eq_true h0, zaO (by omega), decide_eq_true (rfl : x = x)]; rfl
theorem mkT2 {x : Int} (h0 : 0 <= x) (h1 : x <= 100000) {b : Nat} (hb : b <= 104) : (decide True && decide (0 <= x) && leB (x.toNat * b) 140737488355328) = true := by
 have := mkT h0 h1 hb
 rwa [decide_eq_true (rfl : x = x)] at this
theorem zEU {K : Nat} (hK : K <= 100000) (f : Nat -> Int) : zvF (mk K f) = some (!((List.range K).any fun i => !(f i == 0))) := by
 have h := zaj (n := K) (f := fun i => zqs (mk K f) (.l0 (i : Int))) (q := fun i => !(f i == 0)) (r := some false) (e := some true) (fun i hi => by
  rw [zpm]
  simp only [zeL, zM, zQ hi, cnT, zm hi, zW, zap hi, zi i (by omega), id]) (by rw [zpm]; simp only [zeL, zM, zR (Nat.le_refl _), cnF, id])
 refine h.trans ?_
 cases (List.range K).any _ <;> rfl
def zfV (f : Nat -> Int) (h W : Nat) : Bool := decide (1 <= f (h - 1)) && decide (f (h - 1) <= (W : Int)) && !((List.range (W - (f (h - 1)).toNat)).any fun i => !(f (h + (f (h - 1)).toNat + i) == 0))
theorem zzP {f : Nat -> Int} (hf : U32 f) {h W : Nat} (h1 : 1 <= h) (h3 : h <= 3) (hW : W <= 16) : ∃ r, zq4 (mk (h + W) f) (h : Int) = some (r, zfV f h W) := by
 have e1 : i64.wrap ((h : Int) - 1) = ((h - 1 : Nat) : Int) := zo _ _ (by omega) (by omega)
 have e2 : zx (mk (h + W) f) (h - 1) = f (h - 1) := zap (by omega) f
 have e3 : (List.take ((h + W : Nat) : Int).toNat (mk (h + W) f)).drop (h : Int).toNat = mk W fun i => f (h + i) := by
  simp only [zW]
  rw [zbR (Nat.le_refl _), zcH, Nat.add_sub_cancel_left]
 unfold zq4 zjd
 simp only [zM, e1, zW, e2, hf.w64, zm (show h - 1 < h + W by omega), cnT]
 have e3' : (List.take (h + W) (mk (h + W) f)).drop h = mk W fun i => f (h + i) := by simpa only [zW] using e3
 rw [inS_iff.2 ⟨by omega, by omega, by omega⟩, cnT, e3', zM]
 obtain ⟨n0, n1⟩ := hf (h - 1)
 by_cases c1 : f (h - 1) < 1
 . refine ⟨[], ?_⟩
   rw [decide_eq_true c1, cnT]
   have : zfV f h W = false := by unfold zfV; rw [decide_eq_false (show ¬ 1 <= f (h - 1) by omega)]; rfl
   rw [this]; rfl
 . rw [decide_eq_false c1, cnF]
   by_cases c2 : f (h - 1) > (W : Int)
   . refine ⟨[], ?_⟩
     rw [decide_eq_true c2, cnT]
     have : zfV f h W = false := by unfold zfV; rw [decide_eq_false (show ¬ f (h - 1) <= (W : Int) by omega), Bool.and_false]; rfl
     rw [this]; rfl
   . rw [decide_eq_false c2, cnF, inS_iff.2 ⟨by omega, by omega, by omega⟩, cnT]
     have en : (((f (h - 1)).toNat : Nat) : Int) = f (h - 1) := by omega
     have e4 : ((((mk (h + W) f).take ((h + W : Nat) : Int).toNat).drop (h : Int).toNat).take ((((mk (h + W) f).take ((h + W : Nat) : Int).toNat).drop (h : Int).toNat).length : Int).toNat).drop (f (h - 1)).toNat = mk (W - (f (h - 1)).toNat) fun i => f (h + (f (h - 1)).toNat + i) := by
      rw [e3, zM, zW, zbR (Nat.le_refl _), zcH]
      exact zaC fun i hi => congrArg f (by omega)
     have hl := zaj (n := W - (f (h - 1)).toNat) (f := fun i => zqt (mk (h + W) f) (h : Int) (.l0 (i : Int))) (q := fun i => !(f (h + (f (h - 1)).toNat + i) == 0)) (r := some ([], false)) (e := some (mk (f (h - 1)).toNat (fun i => f (h + i)), true)) (fun i hi => by
      rw [zpn]
      simp only [zeM, e1, zW, e2, hf.w64]
      have e4' := e4
      simp only [zW, zM] at e4' ⊢
      rw [e4', zM, zQ hi, cnT, zm hi, cnT, zap hi, zi i (by omega)]; rfl) (by
      rw [zpn]
      simp only [zeM, e1, zW, e2, hf.w64]
      have e4' := e4
      simp only [zW, zM] at e4' ⊢
      rw [e4', zM, zR (Nat.le_refl _), cnF]
      rw [mkT2 (show 0 <= f (h - 1) by omega) (by omega) (by decide), cnT, e3', List.length_replicate, zbR (by omega), zuv (by rw [zM, List.length_replicate])]; rfl)
     refine ⟨cond ((List.range (W - (f (h - 1)).toNat)).any fun i => !(f (h + (f (h - 1)).toNat + i) == 0)) [] (mk (f (h - 1)).toNat (fun i => f (h + i))), hl.trans ?_⟩
     have : zfV f h W = !((List.range (W - (f (h - 1)).toNat)).any fun i => !(f (h + (f (h - 1)).toNat + i) == 0)) := by
      unfold zfV; rw [decide_eq_true (show 1 <= f (h - 1) by omega), decide_eq_true (show f (h - 1) <= (W : Int) by omega)]; rfl
     rw [this]
     cases (List.range (W - (f (h - 1)).toNat)).any fun i => !(f (h + (f (h - 1)).toNat + i) == 0) <;> rfl
def zbF (f : Nat -> Int) (h W : Nat) : Bool := !((List.range (h + W)).any fun i => !(f i == 0)) || ((f 0 == 1) && (!(h == 3) || decide (f 1 <= 1)) && zfV f h W)
theorem zMw {f : Nat -> Int} (hf : U32 f) {h W : Nat} (h2 : h = 2 ∨ h = 3) (hW : W <= 16) : ∃ r, zqY (mk (h + W) f) (h : Int) = some (r, zbF f h W) := by
 obtain ⟨k1, k2⟩ := zw (zEU (K := h + W) (by omega) f)
 obtain ⟨r, hr⟩ := zzP hf (h := h) (W := W) (by omega) (by omega) hW
 obtain ⟨m1, m2⟩ := zw hr
 have k1' : zwJ (mk (h + W) f) = _ := k1
 have k2' : zrv (mk (h + W) f) = _ := k2
 have m1' : zky (mk (h + W) f) (h : Int) = _ := m1
 have m2' : znh (mk (h + W) f) (h : Int) = _ := m2
 unfold zqY zlO zbF
 rw [k1', k2', m1', m2', zM, zbi (x := 0) (Int.le_refl _) (by omega), zap (show 0 < h + W by omega), zbi (x := 1) (by decide) (by omega), zap (show 1 < h + W by omega)]
 cases (List.range (h + W)).any fun i => !(f i == 0) with
 | false => exact ⟨_, rfl⟩
 | true =>
  cases f 0 == 1 with
  | false => exact ⟨_, rfl⟩
  | true =>
   rcases h2 with rfl | rfl
   . exact ⟨_, rfl⟩
   . by_cases c : f 1 <= 1
     . rw [decide_eq_true c, decide_eq_false (show ¬ f 1 > 1 by omega)]; exact ⟨_, rfl⟩
     . rw [decide_eq_false c, decide_eq_true (show f 1 > 1 by omega)]; exact ⟨_, rfl⟩
def zgI (f : Nat -> Int) (h n : Nat) (fresh : Bool) (k : Nat) (i : Nat) : Int := if h <= i /\ i < h + k then f i else if i = h - 1 then (n : Int) else if i = 1 /\ fresh = true then 1 else if i = 0 then 1 else 0
theorem zvR {h W : Nat} (hW : h + W <= 1000) (b : Bool) (l : List Int) : zhr ⟨false, b, l⟩ (h : Int) (W : Int) = some (mk (h + W) fun _ => 0) := by
 have e : i64.wrap ((h : Int) + (W : Int)) = ((h + W : Nat) : Int) := zo _ _ (by omega) (by omega)
 unfold zhr zg3
 rw [e, mkT (by omega) (by omega) (by decide), cnT]
 show some (id (List.replicate ((h + W : Nat) : Int).toNat (0 : Int))) = _
 rw [zW, ze3]; rfl
theorem zvS {f : Nat -> Int} {h W n : Nat} (h2 : h = 2 ∨ h = 3) (hW : W <= 16) (hn : n <= W) (fresh : Bool) (hfr : fresh = true -> h = 3) : zhr ⟨true, fresh, mk n fun i => f (h + i)⟩ (h : Int) (W : Int) = some (mk (h + W) (zgI f h n fresh n)) := by
 have e : i64.wrap ((h : Int) + (W : Int)) = ((h + W : Nat) : Int) := zo _ _ (by omega) (by omega)
 have e1 : i64.wrap ((h : Int) - 1) = ((h - 1 : Nat) : Int) := zo _ _ (by omega) (by omega)
 have en : u32.wrap (n : Int) = (n : Int) := zd9 (by omega) (by omega)
 have tail : ∀ g : Nat -> Int, (∀ i, (if i = h - 1 then (n : Int) else g i) = zgI f h n fresh 0 i) -> zhq ⟨true, fresh, mk n fun i => f (h + i)⟩ (h : Int) (W : Int) (.l15 (mk (h + W) g)) = some (mk (h + W) (zgI f h n fresh n)) := fun g hg => by
  rw [zjI]
  simp only [zd0, e1, zW, zM, zm (show h - 1 < h + W by omega), cnT, en, zdw (show h - 1 < h + W by omega)]
  have hl := zz (n := n) (f := fun (i : Nat) (xs : List Int) => zhq ⟨true, fresh, mk n fun i => f (h + i)⟩ (h : Int) (W : Int) (.l0 (i : Int) xs)) (S := fun i => mk (h + W) (zgI f h n fresh i)) (fun i hi => by
   have e3 : i64.wrap ((h : Int) + (i : Int)) = ((h + i : Nat) : Int) := zo _ _ (by omega) (by omega)
   show zhq _ _ _ _ = _
   rw [zjI]
   simp only [zd0, zM, zQ hi, cnT, zm hi, e3, zW, zm (show h + i < h + W by omega), zap hi, zdw (show h + i < h + W by omega), zi i (by omega)]
   congr 2
   refine zaC fun j hj => ?_
   unfold zgI
   by_cases hji : j = h + i
   . rw [if_pos hji, if_pos (show h <= j /\ j < h + (i + 1) by omega), hji]
   . rw [if_neg hji]
     by_cases hjr : h <= j /\ j < h + i
     . rw [if_pos hjr, if_pos (show h <= j /\ j < h + (i + 1) by omega)]
     . rw [if_neg hjr, if_neg (show ¬ (h <= j /\ j < h + (i + 1)) by omega)])
  have h0 : mk (h + W) (fun i => if i = h - 1 then (n : Int) else g i) = mk (h + W) (zgI f h n fresh 0) := zaC fun i _ => hg i
  rw [h0]
  refine hl.trans ?_
  show zhq _ _ _ _ = _
  rw [zjI]
  simp only [zd0, zM, zR (Nat.le_refl _), cnF, id]
 unfold zhr zg3
 rw [e, mkT (by omega) (by omega) (by decide), cnT, zW, ze3, zM, zbi (x := 0) (Int.le_refl _) (by omega), zdw (show 0 < h + W by omega), zM, zbi (x := 1) (by decide) (by omega), zdw (show 1 < h + W by omega)]
 have un : ∀ i, zgI f h n fresh 0 i = if i = h - 1 then (n : Int) else if i = 1 /\ fresh = true then 1 else if i = 0 then 1 else 0 := fun i => by
  unfold zgI
  rw [if_neg (show ¬ (h <= i /\ i < h + 0) by omega)]
 have gt : fresh = true -> ∀ i, (if i = h - 1 then (n : Int) else if i = 1 then 1 else if i = 0 then 1 else 0) = zgI f h n fresh 0 i := fun e i => by rw [un i, e]; simp
 have gf : fresh = false -> ∀ i, (if i = h - 1 then (n : Int) else if i = 0 then 1 else 0) = zgI f h n fresh 0 i := fun e i => by rw [un i, e]; simp
 rcases h2 with rfl | rfl
 . cases fresh with
   | true => exact absurd (hfr rfl) (by omega)
   | false => exact tail _ (gf rfl)
 . cases fresh with
   | true => exact tail _ (gt rfl)
   | false => exact tail _ (gf rfl)
theorem zQz {K : Nat} (hK : K <= 100000) (f g : Nat -> Int) (hd : Int) (a b : Bool) (l : List Int) : zd5 (mk K f) hd (.l0 0 a b l (mk K g)) = cond ((List.range K).any fun i => !(g i == f i)) (some (⟨false, false, []⟩, false)) (some (⟨a, b, l⟩, true)) :=
 zaj (n := K) (f := fun i => zd5 (mk K f) hd (.l0 (i : Int) a b l (mk K g))) (q := fun i => !(g i == f i)) (fun i hi => by
  rw [zjE]
  simp only [zdY, zM, zQ hi, cnT, zm hi, zW, zap hi, zi i (by omega), id]) (by rw [zjE]; simp only [zdY, zM, zR (Nat.le_refl _), cnF, id])
theorem zUO (q : Bool) (x y : Bulkheadref19Held) : cond q (some (x, false)) (some (y, true)) = some (cond q x y, !q) := by cases q <;> rfl
theorem zA2 {K : Nat} (hK : K <= 100000) (f g : Nat -> Int) (hd : Int) (a b : Bool) (l : List Int) : ∃ r, zd5 (mk K f) hd (.l0 0 a b l (mk K g)) = some (r, !((List.range K).any fun i => !(g i == f i))) := ⟨_, (zQz hK f g hd a b l).trans (zUO _ _ _)⟩
theorem zB8 {f : Nat -> Int} (hf : U32 f) {h W : Nat} (h2 : h = 2 ∨ h = 3) (hW : W <= 16) : ∃ r, zqB (mk (h + W) f) (h : Int) = some (r, zbF f h W) := by
 have e1 : i64.wrap ((h : Int) - 1) = ((h - 1 : Nat) : Int) := zo _ _ (by omega) (by omega)
 have eW : i64.wrap (((h + W : Nat) : Int) - (h : Int)) = ((W : Nat) : Int) := zo _ _ (by omega) (by omega)
 have z0 := hf 0
 obtain ⟨n0, n1⟩ := hf (h - 1)
 have l19 : ∀ (t fr : Bool) (l w : List Int), zhr ⟨t, fr, l⟩ (h : Int) (W : Int) = some w -> zd5 (mk (h + W) f) (h : Int) (.l19 t fr l) = zd5 (mk (h + W) f) (h : Int) (.l0 0 t fr l w) := fun t fr l w hw => by
  obtain ⟨k1, k2⟩ := zw hw
  have k1' : zwG ⟨t, fr, l⟩ (h : Int) (W : Int) = w := k1
  have k2' : zro ⟨t, fr, l⟩ (h : Int) (W : Int) = true := k2
  rw [zjE]
  simp only [zdY, zM, eW, k1', k2', cnT]
 unfold zqB ziP
 rw [zM, zbi (x := 0) (Int.le_refl _) (by omega), cnT, zap (show 0 < h + W by omega), e1, zW, zap (show h - 1 < h + W by omega), hf.w64, eW, zm (show h - 1 < h + W by omega), zbi (x := 1) (by decide) (by omega), zap (show 1 < h + W by omega)]
 by_cases c0 : f 0 = 0
 . rw [c0]
   have : zbF f h W = !((List.range (h + W)).any fun i => !((0 : Int) == f i)) := by
    unfold zbF
    rw [c0]
    have : ((List.range (h + W)).any fun i => !(f i == 0)) = ((List.range (h + W)).any fun i => !((0 : Int) == f i)) := zp1 fun i _ => by rw [Bool.beq_comm]
    rw [this]
    simp
   rw [this]
   show ∃ r, zd5 (mk (h + W) f) (h : Int) (.l19 false false []) = _
   rw [l19 _ _ _ _ (zvR (by omega) false [])]
   exact zA2 (by omega) _ _ _ _ _ _
 . have hz : (f 0 == 0) = false := beq_eq_false_iff_ne.2 c0
   have hany : ((List.range (h + W)).any fun i => !(f i == 0)) = true := any_t.2 ⟨0, by omega, by rw [hz]; rfl⟩
   have hs : zbF f h W = ((f 0 == 1) && (!(h == 3) || decide (f 1 <= 1)) && zfV f h W) := by unfold zbF; rw [hany]; rfl
   rw [hz, hs]
   show ∃ r, cond (decide (f (h - 1) < 1)) _ _ = _
   by_cases c1 : f (h - 1) < 1
   . refine ⟨⟨false, false, []⟩, ?_⟩
     rw [decide_eq_true c1]
     have : zfV f h W = false := by unfold zfV; rw [decide_eq_false (show ¬ 1 <= f (h - 1) by omega)]; rfl
     rw [this, Bool.and_false]; rfl
   . rw [decide_eq_false c1, cnF]
     by_cases c2 : f (h - 1) > (W : Int)
     . refine ⟨⟨false, false, []⟩, ?_⟩
       rw [decide_eq_true c2]
       have : zfV f h W = false := by unfold zfV; rw [decide_eq_false (show ¬ f (h - 1) <= (W : Int) by omega), Bool.and_false]; rfl
       rw [this, Bool.and_false]; rfl
     . rw [decide_eq_false c2, cnF]
       obtain ⟨n, hn⟩ : ∃ n : Nat, f (h - 1) = (n : Int) := ⟨(f (h - 1)).toNat, by omega⟩
       have e5 : i64.wrap ((h : Int) + (n : Int)) = ((h + n : Nat) : Int) := zo _ _ (by omega) (by omega)
       have e6 : (List.take (h + n) (mk (h + W) f)).drop h = mk n fun i => f (h + i) := by rw [zbR (by omega), zcH, Nat.add_sub_cancel_left]
       rw [hn, e5, inS_iff.2 ⟨by omega, by omega, by omega⟩, zW, zW, e6, cnT, cnT]
       have hmsg : zfV f h W = !((List.range (W - n)).any fun i => !(f (h + n + i) == 0)) := by
        unfold zfV; rw [hn, zW, decide_eq_true (show 1 <= (n : Int) by omega), decide_eq_true (show (n : Int) <= (W : Int) by omega)]; rfl
       have key : ∀ fr : Bool, (fr = true ↔ h = 3 /\ f 1 = 1) -> ((List.range (h + W)).any fun i => !(zgI f h n fr n i == f i)) = !((f 0 == 1) && (!(h == 3) || decide (f 1 <= 1)) && zfV f h W) := fun fr hfr => by
        rw [hmsg, Bool.eq_iff_iff]
        simp only [Bool.not_eq_true', Bool.and_eq_false_iff, Bool.not_eq_false', any_t, Bool.or_eq_false_iff, decide_eq_false_iff_not, beq_eq_false_iff_ne, Bool.not_eq_eq_eq_not, Bool.not_true, Bool.not_false, beq_iff_eq, ne_eq]
        have z1 := hf 1
        constructor
        . rintro ⟨i, hi, hne⟩
          unfold zgI at hne
          by_cases a1 : h <= i /\ i < h + n
          . rw [if_pos a1] at hne; exact absurd rfl hne
          . rw [if_neg a1] at hne
            by_cases a2 : i = h - 1
            . rw [if_pos a2, a2, hn] at hne; exact absurd rfl hne
            . rw [if_neg a2] at hne
              by_cases a3 : i = 1 /\ fr = true
              . rw [if_pos a3, a3.1, (hfr.1 a3.2).2] at hne; exact absurd rfl hne
              . rw [if_neg a3] at hne
                by_cases a4 : i = 0
                . rw [if_pos a4, a4] at hne; exact .inl (.inl fun e => hne e.symm)
                . rw [if_neg a4] at hne
                  by_cases a5 : i = 1
                  . subst a5
                    have h3 : h = 3 := by omega
                    refine .inl (.inr ⟨h3, ?_⟩)
                    have : ¬ f 1 = 1 := fun e => a3 ⟨rfl, hfr.2 ⟨h3, e⟩⟩
                    omega
                  . refine .inr ⟨i - (h + n), by omega, ?_⟩
                    rw [show h + n + (i - (h + n)) = i by omega]
                    exact fun e => hne e.symm
        . rintro ((h0 | ⟨h3, h1⟩) | ⟨i, hi, hne⟩)
          . refine ⟨0, by omega, ?_⟩
            unfold zgI
            rw [if_neg (by omega), if_neg (by omega), if_neg (by omega), if_pos rfl]
            exact fun e => h0 e.symm
          . refine ⟨1, by omega, ?_⟩
            unfold zgI
            rw [if_neg (by omega), if_neg (by omega), if_neg (fun e => by have := (hfr.1 e.2).2; omega), if_neg (by omega)]
            omega
          . refine ⟨h + n + i, by omega, ?_⟩
            unfold zgI
            rw [if_neg (by omega), if_neg (by omega), if_neg (by omega), if_neg (by omega)]
            exact fun e => hne e.symm
       have fin : ∀ fr : Bool, (fr = true ↔ h = 3 /\ f 1 = 1) -> ∃ r, zd5 (mk (h + W) f) (h : Int) (.l19 true fr (mk n fun i => f (h + i))) = some (r, (f 0 == 1) && (!(h == 3) || decide (f 1 <= 1)) && zfV f h W) := fun fr hfr => by
        rw [l19 _ _ _ _ (zvS h2 hW (by omega) fr fun e => (hfr.1 e).1)]
        have := zA2 (K := h + W) (by omega) f (zgI f h n fr n) (h : Int) true fr (mk n fun i => f (h + i))
        rwa [key fr hfr, Bool.not_not] at this
       rcases h2 with rfl | rfl
       . exact fin false ⟨fun e => absurd e (by simp), fun e => absurd e.1 (by omega)⟩
       . exact fin (f 1 == 1) ⟨fun e => ⟨rfl, by simpa using e⟩, fun e => by simpa using e.2⟩
theorem zEO (b : Bool) : (cond b (0 : Int) 191 == 0) = b := by cases b <;> rfl
section
variable {N : Nat} {f : Nat -> Int} {a n : Nat}
theorem zyf (hN : N <= 100000) (h : a + n <= N) : zjR (some ⟨mk N f⟩) (a : Int) (n : Int) = some 0 := by
 unfold zjR ziZ
 have h0 : (some (⟨mk N f⟩ : MemMemory)).getD default = ⟨mk N f⟩ := rfl
 have h1 : (some (⟨mk N f⟩ : MemMemory)).isNone = false := rfl
 have h2 : (some (⟨mk N f⟩ : MemMemory)).isSome = true := rfl
 have ew : i64.wrap ((N : Int) - (a : Int)) = (N : Int) - (a : Int) := z9 _ (by omega) (by omega)
 rw [h1, h2, h0, cnF, decide_eq_false (show ¬ ((a : Int) < 0) by omega), cnF, decide_eq_false (show ¬ ((n : Int) < 0) by omega), cnF, cnT, zM, decide_eq_false (show ¬ ((a : Int) > (N : Int)) by omega), cnF, cnT, ew, decide_eq_false (show ¬ ((n : Int) > (N : Int) - (a : Int)) by omega)]
 rfl
theorem zrC (hN : N <= 100000) (h : a + n <= N) : zqX (some ⟨mk N f⟩) (a : Int) (n : Int) = some (mk n fun i => f (a + i), 0) := by
 obtain ⟨k1, k2⟩ := zw (zyf (f := f) hN h)
 have k1' : zfp (some ⟨mk N f⟩) (a : Int) (n : Int) = 0 := k1
 have k2' : zgf (some ⟨mk N f⟩) (a : Int) (n : Int) = true := k2
 have h0 : (some (⟨mk N f⟩ : MemMemory)).getD default = ⟨mk N f⟩ := rfl
 unfold zqX zlN
 rw [k1', k2', cnT, h0]
 show cond (decide ((n : Int) = n) && decide (0 <= (n : Int)) && leB ((n : Int).toNat * 4) 140737488355328) _ _ = _
 rw [mkT (by omega) (by omega) (by decide), cnT]
 show cond (inS (a : Int) ((mk N f).length : Int) (mk N f).length) _ _ = _
 rw [zM, inS_iff.2 ⟨by omega, by omega, by omega⟩, cnT, zW, zW, zW, zbR (Nat.le_refl _), zcH, List.length_replicate, zbR (by omega), zuv (by rw [zM, List.length_replicate])]
 rfl
theorem zUP (hN : N <= 100000) (h : a + n <= N) : zqT (some ⟨mk N f⟩) (a : Int) (n : Int) = some true := by
 unfold zqT zlJ
 have h0 : (some (⟨mk N f⟩ : Bulkheadref05Memory)).getD default = ⟨mk N f⟩ := rfl
 have h2 : (some (⟨mk N f⟩ : Bulkheadref05Memory)).isSome = true := rfl
 have ew : i64.wrap ((N : Int) - (a : Int)) = (N : Int) - (a : Int) := z9 _ (by omega) (by omega)
 rw [h0, h2, decide_eq_true (show (a : Int) >= 0 by omega), decide_eq_true (show (n : Int) >= 0 by omega)]
 simp only [cnT, zM, ew, id]
 rw [decide_eq_true (show (a : Int) <= (N : Int) by omega), decide_eq_true (show (n : Int) <= (N : Int) - (a : Int) by omega)]
 rfl
theorem zCW (hN : N <= 100000) (h : a + n <= N) : zqA (some ⟨mk N f⟩) (a : Int) (n : Int) = some (mk n fun i => f (a + i), 0) := by
 obtain ⟨k1, k2⟩ := zw (zUP (f := f) hN h)
 have k1' : zwF (some ⟨mk N f⟩) (a : Int) (n : Int) = true := k1
 have k2' : zrn (some ⟨mk N f⟩) (a : Int) (n : Int) = true := k2
 have h0 : (some (⟨mk N f⟩ : Bulkheadref05Memory)).getD default = ⟨mk N f⟩ := rfl
 have h1 : (some (⟨mk N f⟩ : Bulkheadref05Memory)).isNone = false := rfl
 have h2 : (some (⟨mk N f⟩ : Bulkheadref05Memory)).isSome = true := rfl
 unfold zqA ziO
 rw [h1, k1', k2', cnF, cnT, Bool.not_true, cnF]
 have hl := zz (n := n) (f := fun (i : Nat) (xs : List Int) => zjD (some ⟨mk N f⟩) (a : Int) (n : Int) (.l0 (i : Int) xs)) (S := fun i => mk i fun i => f (a + i)) (fun i hi => by
  have e3 : i64.wrap ((a : Int) + (i : Int)) = ((a + i : Nat) : Int) := zo _ _ (by omega) (by omega)
  show zjD _ _ _ _ = _
  rw [zpg]
  simp only [zeF, h0, h2, zM, zQ hi, cnT, e3, zm (show a + i < N by omega), zW, zap (show a + i < N by omega), zi i (by omega), List.length_singleton, zaO (show (i + 1) * 4 <= 140737488355328 by omega)]
  rw [zGn i fun i => f (a + i)])
 refine hl.trans ?_
 show zjD _ _ _ _ = _
 rw [zpg]
 simp only [zeF, zR (Nat.le_refl _), cnF, id]
end
section
variable {N : Nat} {f : Nat -> Int} (hf : U32 f) {a W : Nat}
include hf
theorem zyb (hN : N <= 100000) {h : Nat} (h2 : h = 2 ∨ h = 3) (hW : W <= 16) (ha : a + (h + W) <= N) : ∃ r, zqF (some ⟨mk N f⟩) (a : Int) (W : Int) (h : Int) = some (r, cond (zbF (fun i => f (a + i)) h W) 0 191) := by
 have e : i64.wrap ((h : Int) + (W : Int)) = ((h + W : Nat) : Int) := zo _ _ (by omega) (by omega)
 obtain ⟨k1, k2⟩ := zw (zrC (f := f) hN ha)
 have k1' : z6 (some ⟨mk N f⟩) (a : Int) ((h + W : Nat) : Int) = _ := k1
 have k2' : zd8 (some ⟨mk N f⟩) (a : Int) ((h + W : Nat) : Int) = true := k2
 obtain ⟨r, hr⟩ := zMw (hf.sh a) h2 hW
 obtain ⟨m1, m2⟩ := zw hr
 have m1' : zkx (mk (h + W) fun i => f (a + i)) (h : Int) = _ := m1
 have m2' : znd (mk (h + W) fun i => f (a + i)) (h : Int) = true := m2
 unfold zqF zlv
 rw [e, k2', k1']
 show ∃ r, cond (znd (mk (h + W) fun i => f (a + i)) (h : Int)) (cond (!(zkx (mk (h + W) fun i => f (a + i)) (h : Int)).2) (some ([], 191)) (some ((zkx (mk (h + W) fun i => f (a + i)) (h : Int)).1, 0))) none = _
 rw [m2', m1']
 cases zbF (fun i => f (a + i)) h W with
 | false => exact ⟨_, rfl⟩
 | true => exact ⟨_, rfl⟩
theorem zJN (m : MemMemory) (h1 : 1 <= W) (hW : W <= 16) : zid (some m) (W : Int) = 0 := by
 unfold zid zjP ziS
 rw [decide_eq_false (show ¬ ((W : Int) < 1) by omega), decide_eq_false (show ¬ ((W : Int) > 16) by omega)]; rfl
theorem zyc (m : Bulkheadref05Memory) (h1 : 1 <= W) (hW : W <= 16) : zib (some m) (W : Int) = 0 := by
 unfold zib zjN ziN
 rw [decide_eq_false (show ¬ ((W : Int) < 1) by omega), decide_eq_false (show ¬ ((W : Int) > 16) by omega)]; rfl
theorem zAe (hN : N <= 100000) (h1 : 1 <= W) (hW : W <= 16) (ha : a + (2 + W) <= N) : ∃ r, zxt (some ⟨mk N f⟩) (a : Int) (W : Int) = some (r, cond (zbF (fun i => f (a + i)) 2 W) 0 191) := by
 obtain ⟨r, hr⟩ := zyb hf hN (.inl rfl) hW ha
 obtain ⟨k1, k2⟩ := zw hr
 have k1' : zfn (some ⟨mk N f⟩) (a : Int) (W : Int) 2 = _ := k1
 have k2' : zjX (some ⟨mk N f⟩) (a : Int) (W : Int) 2 = true := k2
 unfold zxt zs0
 rw [zJN hf _ h1 hW, k1', k2']
 exact ⟨_, rfl⟩
theorem zHu (hN : N <= 100000) (h1 : 1 <= W) (hW : W <= 16) (ha : a + (3 + W) <= N) : ∃ x y z, zxv (some ⟨mk N f⟩) (a : Int) (W : Int) = some (x, y, z, cond (zbF (fun i => f (a + i)) 3 W) 0 191) := by
 obtain ⟨r, hr⟩ := zyb hf hN (.inr rfl) hW ha
 obtain ⟨k1, k2⟩ := zw hr
 have k1' : zfn (some ⟨mk N f⟩) (a : Int) (W : Int) 3 = _ := k1
 have k2' : zjX (some ⟨mk N f⟩) (a : Int) (W : Int) 3 = true := k2
 have e : i64.wrap ((a : Int) + 1) = ((a + 1 : Nat) : Int) := zi a (by omega)
 have hrd := zvg (m := ⟨mk N f⟩) (i := a + 1) (by rw [zM]; exact hN) (by omega)
 have hrd2 : zgh (some ⟨mk N f⟩) ((a + 1 : Nat) : Int) = true := (zw hrd).2
 unfold zxv zs2
 rw [zJN hf _ h1 hW, k1', k2', e, hrd2]
 cases zbF (fun i => f (a + i)) 3 W with
 | false => exact ⟨_, _, _, rfl⟩
 | true =>
  show ∃ x y z, cond ((r.length : Int) == 0) (some ([], false, false, 0)) _ = _
  cases (r.length : Int) == 0 with
  | false => exact ⟨_, _, _, rfl⟩
  | true => exact ⟨_, _, _, rfl⟩
theorem zAf (hN : N <= 100000) (h1 : 1 <= W) (hW : W <= 16) (ha : a + (2 + W) <= N) : ∃ r, zxi (some ⟨mk N f⟩) (a : Int) (W : Int) = some (r, cond (zbF (fun i => f (a + i)) 2 W) 0 191) := by
 have e : i64.wrap (2 + (W : Int)) = ((2 + W : Nat) : Int) := zo _ _ (by omega) (by omega)
 obtain ⟨k1, k2⟩ := zw (zCW (f := f) hN ha)
 have k1' : zcO (some ⟨mk N f⟩) (a : Int) ((2 + W : Nat) : Int) = _ := k1
 have k2' : zjW (some ⟨mk N f⟩) (a : Int) ((2 + W : Nat) : Int) = true := k2
 obtain ⟨r, hr⟩ := zB8 (hf.sh a) (.inl rfl : 2 = 2 ∨ 2 = 3) hW
 obtain ⟨m1, m2⟩ := zw hr
 have m1' : zci (mk (2 + W) fun i => f (a + i)) 2 = _ := m1
 have m2' : zgd (mk (2 + W) fun i => f (a + i)) 2 = true := m2
 unfold zxi zsN
 rw [zyc hf _ h1 hW, e, k1', k2']
 show ∃ r, cond (zgd (mk (2 + W) fun i => f (a + i)) 2) (cond (!(zci (mk (2 + W) fun i => f (a + i)) 2).2) (some (0, 191)) (cond (zci (mk (2 + W) fun i => f (a + i)) 2).1.there (some (1, 0)) (some (0, 0)))) none = _
 rw [m1', m2']
 cases zbF (fun i => f (a + i)) 2 W with
 | false => exact ⟨_, rfl⟩
 | true =>
  show ∃ x, cond r.there _ _ = _
  cases r.there with
  | false => exact ⟨_, rfl⟩
  | true => exact ⟨_, rfl⟩
theorem zHv (hN : N <= 100000) (h1 : 1 <= W) (hW : W <= 16) (ha : a + (3 + W) <= N) : ∃ x y z u, zxk (a : Int) (W : Int) (mk N f) = some (x, y, z, cond (zbF (fun i => f (a + i)) 3 W) 0 191, u) := by
 have e : i64.wrap (3 + (W : Int)) = ((3 + W : Nat) : Int) := zo _ _ (by omega) (by omega)
 obtain ⟨k1, k2⟩ := zw (zCW (f := f) hN ha)
 have k1' : zcO (some ⟨mk N f⟩) (a : Int) ((3 + W : Nat) : Int) = _ := k1
 have k2' : zjW (some ⟨mk N f⟩) (a : Int) ((3 + W : Nat) : Int) = true := k2
 obtain ⟨r, hr⟩ := zB8 (hf.sh a) (.inr rfl : 3 = 2 ∨ 3 = 3) hW
 obtain ⟨m1, m2⟩ := zw hr
 have m1' : zci (mk (3 + W) fun i => f (a + i)) 3 = _ := m1
 have m2' : zgd (mk (3 + W) fun i => f (a + i)) 3 = true := m2
 unfold zxk zsP
 rw [zyc hf _ h1 hW, e, k1', k2']
 show ∃ x y z u, cond (zgd (mk (3 + W) fun i => f (a + i)) 3) (cond (!(zci (mk (3 + W) fun i => f (a + i)) 3).2) (some ([], false, false, 191, _)) (some ((zci (mk (3 + W) fun i => f (a + i)) 3).1.message, (zci (mk (3 + W) fun i => f (a + i)) 3).1.fresh, (zci (mk (3 + W) fun i => f (a + i)) 3).1.there, 0, _))) none = _
 rw [m1', m2']
 cases zbF (fun i => f (a + i)) 3 W with
 | false => exact ⟨_, _, _, _, rfl⟩
 | true => exact ⟨_, _, _, _, rfl⟩
end
def zfW (f : Nat -> Int) (W : Nat) : Bool := decide (f 0 <= (W : Int)) && !((List.range (W - (f 0).toNat)).any fun i => !(f (1 + (f 0).toNat + i) == 0))
theorem zwl {f : Nat -> Int} {W : Nat} (h : ¬ f 0 <= (W : Int)) : zfW f W = false := by unfold zfW; rw [decide_eq_false h]; rfl
theorem zzQ {f : Nat -> Int} (hf : U32 f) {W : Nat} (hW : W <= 16) : zq6 (mk (1 + W) f) = some (cond (zfW f W) (mk (f 0).toNat fun i => f (1 + i)) [], zfW f W) := by
 have e1 : i64.wrap (((1 + W : Nat) : Int) - 1) = ((W : Nat) : Int) := zo _ _ (by omega) (by omega)
 have e2 : u32.wrap ((W : Nat) : Int) = ((W : Nat) : Int) := zd9 (by omega) (by omega)
 obtain ⟨n0, n1⟩ := hf 0
 unfold zq6 zjf
 rw [zM, zbi (x := 0) (Int.le_refl _) (by omega), cnT, zap (show 0 < 1 + W by omega), e1, e2]
 by_cases c : f 0 > (W : Int)
 . rw [decide_eq_true c, zwl (by omega)]; rfl
 . have e3 : u32.wrap (1 + f 0) = 1 + f 0 := zd9 (by omega) (by omega)
   obtain ⟨n, hn⟩ : ∃ n : Nat, f 0 = (n : Int) := ⟨(f 0).toNat, by omega⟩
   have e4 : (1 + f 0).toNat = 1 + n := by omega
   have e5 : ((mk (1 + W) f).take (1 + W)).drop (1 + n) = mk (W - n) fun i => f (1 + n + i) := by
    rw [zbR (Nat.le_refl _), zcH, show 1 + W - (1 + n) = W - n by omega]
   have hm : zfW f W = !((List.range (W - n)).any fun i => !(f (1 + n + i) == 0)) := by
    unfold zfW; rw [hn, zW, decide_eq_true (show (n : Int) <= (W : Int) by omega)]; rfl
   rw [decide_eq_false c, cnF, e3, inS_iff.2 ⟨by omega, by omega, by omega⟩, cnT]
   have hl := zaj (n := W - n) (f := fun i => zqu (mk (1 + W) f) (.l0 (i : Int))) (q := fun i => !(f (1 + n + i) == 0)) (r := some ([], false)) (e := some (mk n (fun i => f (1 + i)), true)) (fun i hi => by
    rw [zpp]
    simp only [zeO, zM, zap (show 0 < 1 + W by omega), e3, e4, zW, e5, zQ hi, cnT, zm hi, zap hi, zi i (by omega), id]) (by
    rw [zpp]
    have e6 : ((mk (1 + W) f).take (1 + n)).drop 1 = mk n fun i => f (1 + i) := by rw [zbR (by omega), zcH, Nat.add_sub_cancel_left]
    simp only [zeO, zM, zap (show 0 < 1 + W by omega), e3, e4, zW, e5, zR (Nat.le_refl _), cnF, e6, List.length_nil, List.nil_append, id]
    rw [inS_iff.2 ⟨by omega, by omega, by omega⟩, cnT, zaO (by omega), cnT])
   rw [hm, hn, zW]
   refine hl.trans ?_
   cases (List.range (W - n)).any fun i => !(f (1 + n + i) == 0) <;> rfl
theorem zGw {f : Nat -> Int} (hf : U32 f) {N a W : Nat} (hN : N <= 100000) (hW : W <= 16) (ha : a + (1 + W) <= N) : zqS (mk N f) (a : Int) (W : Int) = some (cond (zfW (fun i => f (a + i)) W) (mk (f a).toNat fun i => f (a + 1 + i)) [], cond (zfW (fun i => f (a + i)) W) (f a) (-1)) := by
 obtain ⟨n0, n1⟩ := hf a
 have e1 : i64.wrap ((a : Int) + 1) = ((a + 1 : Nat) : Int) := zi a (by omega)
 unfold zqS zi8
 rw [zM, zm (show a < N by omega), cnT, zW, zap (show a < N by omega), hf.w64]
 by_cases c : f a > (W : Int)
 . rw [decide_eq_true c, zwl (f := fun i => f (a + i)) (by show ¬ f (a + 0) <= _; rw [Nat.add_zero]; omega)]; rfl
 . obtain ⟨n, hn⟩ : ∃ n : Nat, f a = (n : Int) := ⟨(f a).toNat, by omega⟩
   have hm : zfW (fun i => f (a + i)) W = !((List.range (W - n)).any fun i => !(f (a + 1 + n + i) == 0)) := by
    unfold zfW
    show (decide (f (a + 0) <= (W : Int)) && !((List.range (W - (f (a + 0)).toNat)).any fun i => !(f (a + (1 + (f (a + 0)).toNat + i)) == 0))) = _
    rw [Nat.add_zero, hn, zW, decide_eq_true (show (n : Int) <= (W : Int) by omega)]
    have : ((List.range (W - n)).any fun i => !(f (a + (1 + n + i)) == 0)) = ((List.range (W - n)).any fun i => !(f (a + 1 + n + i) == 0)) := zp1 fun i _ => by rw [show a + (1 + n + i) = a + 1 + n + i by omega]
    rw [this]; rfl
   have e3 : ∀ i : Nat, i <= 16 -> i64.wrap (((a + 1 : Nat) : Int) + (i : Int)) = ((a + 1 + i : Nat) : Int) := fun i hi => zo _ _ (by omega) (by omega)
   have ewn : i64.wrap ((n : Nat) : Int) = (n : Int) := z9 _ (by omega) (by omega)
   have hl0 : zf8 (mk N f) (a : Int) (W : Int) (.l4 0 (List.replicate n 0)) = some (mk n (fun i : Nat => f (a + 1 + i)), (n : Int)) := by
    rw [ze3]
    have hl := zz (n := n) (f := fun (i : Nat) (xs : List Int) => zf8 (mk N f) (a : Int) (W : Int) (.l4 (i : Int) xs)) (S := fun k : Nat => mk n fun i : Nat => if i < k then f (a + 1 + i) else 0) (fun i hi => by
     show zf8 _ _ _ _ = _
     rw [zgC]
     simp only [zdn, zW, zap (show a < N by omega), hn, ewn, zQ hi, cnT, e1, e3 i (by omega), zM, zm (show a + 1 + i < N by omega), zm hi, zap (show a + 1 + i < N by omega), zi i (by omega), zdw hi]
     congr 2
     refine zaC fun j hj => ?_
     by_cases hji : j = i
     . rw [if_pos hji, if_pos (show j < i + 1 by omega), hji]
     . rw [if_neg hji]
       by_cases hjr : j < i
       . rw [if_pos hjr, if_pos (show j < i + 1 by omega)]
       . rw [if_neg hjr, if_neg (show ¬ j < i + 1 by omega)])
    have h0 : (mk n fun i => if i < 0 then f (a + 1 + i) else 0) = mk n fun _ => 0 := zaC fun i _ => if_neg (by omega)
    rw [← h0]
    refine hl.trans ?_
    show zf8 _ _ _ _ = _
    rw [zgC]
    simp only [zdn, zW, zap (show a < N by omega), hn, ewn, zR (Nat.le_refl _), cnF, id]
    congr 2
    exact zaC fun i hi => if_pos hi
   have key : ∀ r i, n + i + r = W -> zf8 (mk N f) (a : Int) (W : Int) (.l0 ((n + i : Nat) : Int)) = cond ((List.range' i r).any fun i => !(f (a + 1 + n + i) == 0)) (some ([], (-1))) (some (mk n fun i => f (a + 1 + i), (n : Int))) := by
    intro r
    induction r with
    | zero =>
     intro i hi
     rw [zgC]
     simp only [zdn, zW, zap (show a < N by omega), hn, ewn, zR (show W <= n + i by omega), cnF]
     have hmk := mkT2 (x := (n : Int)) (b := 4) (by omega) (by omega) (by decide)
     rw [zW] at hmk
     rw [hmk, cnT, hl0]; rfl
    | succ r ih =>
     intro i hi
     rw [zgC]
     simp only [zdn, zQ (show n + i < W by omega), cnT, e1, e3 (n + i) (by omega), zM, zm (show a + 1 + (n + i) < N by omega), zW, zap (show a + 1 + (n + i) < N by omega), zi (n + i) (by omega), id]
     rw [List.range'_succ, List.any_cons, show n + i + 1 = n + (i + 1) by omega, ih (i + 1) (by omega), show a + 1 + (n + i) = a + 1 + n + i by omega]
     cases f (a + 1 + n + i) == 0 <;> rfl
   have := key (W - n) 0 (by omega)
   rw [decide_eq_false c, cnF, hm, hn, zW]
   rw [Nat.add_zero, ← List.range_eq_range'] at this
   refine this.trans ?_
   cases (List.range (W - n)).any fun i => !(f (a + 1 + n + i) == 0) <;> rfl
def okQ (f : Nat -> Int) (W D first : Nat) (many : Int) (i : Nat) : Bool := zfW (fun j => f ((first + i) % D * (1 + W) + j)) W && (decide ((i : Int) < many) == decide (f ((first + i) % D * (1 + W)) > 0))
def zhh (f : Nat -> Int) (W D first : Nat) (many : Int) : Bool := !((List.range D).any fun i => !(okQ f W D first many i))
theorem zA4 (a b : Nat) : dv .rem .i64 (a : Int) (b : Int) = ((a % b : Nat) : Int) := by
 show Int.tmod (a : Int) (b : Int) = _
 rw [Int.tmod_eq_emod_of_nonneg (Int.natCast_nonneg a)]
 exact (Int.natCast_emod a b).symm
section
variable {f : Nat -> Int} (hf : U32 f) {W D : Nat} (hW : W <= 16) (hD1 : 1 <= D) (hD : D <= 8)
include hf hW hD1 hD
theorem zBZ {first i : Nat} : (first + i) % D * (1 + W) + (1 + W) <= D * (1 + W) /\ D * (1 + W) <= 136 := by
 have h1 := Nat.mod_lt (first + i) (show D > 0 by omega)
 have h2 : ((first + i) % D + 1) * (1 + W) <= D * (1 + W) := Nat.mul_le_mul_right _ h1
 rw [Nat.add_mul, Nat.one_mul] at h2
 exact ⟨h2, Nat.le_trans (Nat.mul_le_mul hD (show 1 + W <= 17 by omega)) (by decide)⟩
theorem zJT {N a first : Nat} (hN : N <= 100000) (hfi : first <= 8) (ha : a + D * (1 + W) <= N) (many : Int) : ∃ r, zqz (mk N f) (a : Int) (W : Int) (D : Int) (first : Int) many = some (r, zhh (fun i => f (a + i)) W D first many) := by
 have eW : i64.wrap (1 + (W : Int)) = ((1 + W : Nat) : Int) := zo _ _ (by omega) (by omega)
 have dD : decide ((D : Int) = 0) = false := decide_eq_false (by omega)
 have e9 : ∀ (i : Nat) (x2 : Int) (x3 : Bool) (x4 : Int) (x5 x6 : Bool) (xs : List (List Int)), i <= 100 -> zjB (mk N f) (a : Int) (W : Int) (D : Int) (first : Int) many (.l9 (i : Int) x2 x3 x4 x5 x6 xs) = zjB (mk N f) (a : Int) (W : Int) (D : Int) (first : Int) many (.l0 ((i + 1 : Nat) : Int) xs) := fun i x2 x3 x4 x5 x6 xs hi => by
  rw [zjC]
  simp only [zdX, zi i (show i < 4611686018427387904 by omega)]
 have key : ∀ r i, i + r = D -> ∀ xs : List (List Int), xs.length <= i -> ∃ y, zjB (mk N f) (a : Int) (W : Int) (D : Int) (first : Int) many (.l0 (i : Int) xs) = some (y, !((List.range' i r).any fun i => !(okQ (fun i => f (a + i)) W D first many i))) := by
  intro r
  induction r with
  | zero =>
   intro i hi xs hx
   rw [Nat.add_zero] at hi
   subst hi
   refine ⟨⟨(first : Int), xs, 0⟩, ?_⟩
   rw [zjC]
   simp only [zdX, zR (Nat.le_refl _), cnF, id]
   rfl
  | succ r ih =>
   intro i hi xs hx
   have hpl := zBZ hf hW hD1 hD (first := first) (i := i)
   have e1 : i64.wrap ((first : Int) + (i : Int)) = ((first + i : Nat) : Int) := zo _ _ (by omega) (by omega)
   have e2 : i64.wrap ((((first + i) % D : Nat) : Int) * ((1 + W : Nat) : Int)) = (((first + i) % D * (1 + W) : Nat) : Int) := zo _ _ (Int.natCast_mul _ _).symm (by omega)
   generalize hp : (first + i) % D * (1 + W) = p at *
   have e3 : i64.wrap ((a : Int) + (p : Int)) = ((a + p : Nat) : Int) := zo _ _ (by omega) (by omega)
   obtain ⟨k1, k2⟩ := zw (zGw hf (N := N) (a := a + p) hN hW (by omega))
   have k1' : ztP (mk N f) ((a + p : Nat) : Int) (W : Int) = _ := k1
   have k2' : zrm (mk N f) ((a + p : Nat) : Int) (W : Int) = true := k2
   have hmq : zfW (fun j => f (a + p + j)) W = zfW (fun j => f (a + (p + j))) W := by
    have : (fun j => f (a + p + j)) = fun j => f (a + (p + j)) := by funext j; rw [Nat.add_assoc]
    rw [this]
   have hok : okQ (fun i => f (a + i)) W D first many i = (zfW (fun j => f (a + p + j)) W && (decide ((i : Int) < many) == decide (f (a + p) > 0))) := by
    unfold okQ; rw [hp, hmq]
   rw [zjC]
   simp only [zdX, zQ (show i < D by omega), dD, cnT, cnF, e1, zA4, eW, e2, e3, k1', k2']
   rw [List.range'_succ, List.any_cons, hok]
   cases hq : zfW (fun j => f (a + p + j)) W with
   | false => exact ⟨_, rfl⟩
   | true =>
    have h0 := (hf (a + p)).1
    rw [cnT, decide_eq_false (show ¬ f (a + p) < 0 by omega), cnF]
    cases hd : (decide ((i : Int) < many) == decide (f (a + p) > 0)) with
    | false => exact ⟨_, rfl⟩
    | true =>
     obtain ⟨y, hy⟩ := ih (i + 1) (by omega) xs (by omega)
     obtain ⟨z, hz⟩ := ih (i + 1) (by omega) (xs ++ [mk (f (a + p)).toNat fun i => f (a + p + 1 + i)]) (by rw [List.length_append]; exact Nat.succ_le_succ hx)
     cases hm : decide ((i : Int) < many) with
     | false =>
      simp only [Bool.not_true, cnF, e9 i _ _ _ _ _ _ (by omega)]
      exact ⟨y, hy⟩
     | true =>
      simp only [Bool.not_true, cnF, cnT, e9 i _ _ _ _ _ _ (by omega), List.length_singleton, zaO (show (xs.length + 1) * 24 <= 140737488355328 by omega)]
      exact ⟨z, hz⟩
 unfold zqz ziM zhh
 rw [List.range_eq_range']
 exact key D 0 (by omega) [] (Nat.le_refl _)
theorem zB7 {first : Nat} (hfi : first < D) {many : Nat} (hm : many <= D) : ∃ r, zgc ⟨(W : Int), (D : Int)⟩ (mk (D * (1 + W)) f) (first : Int) (many : Int) = some (r, zhh f W D first (many : Int)) := by
 have eW : zmC ⟨(W : Int), (D : Int)⟩ = ((1 + W : Nat) : Int) := by
  show i64.wrap (1 + (W : Int)) = _
  exact zo _ _ (by omega) (by omega)
 have dD : decide ((D : Int) = 0) = false := decide_eq_false (by omega)
 have ef : i64.wrap (first : Int) = (first : Int) := z9 _ (by omega) (by omega)
 have em : i64.wrap (many : Int) = (many : Int) := z9 _ (by omega) (by omega)
 have eD : u32.wrap (D : Int) = (D : Int) := zd9 (by omega) (by omega)
 have e9 : ∀ (i : Nat) (x2 : List Int) (x3 : Int) (x4 : Bool) (x5 : Int) (x6 x7 : Bool) (xs : List (List Int)), i <= 100 -> zjJ ⟨(W : Int), (D : Int)⟩ (mk (D * (1 + W)) f) (first : Int) (many : Int) (.l27 (i : Int) x2 x3 x4 x5 x6 x7 xs) = zjJ ⟨(W : Int), (D : Int)⟩ (mk (D * (1 + W)) f) (first : Int) (many : Int) (.l0 ((i + 1 : Nat) : Int) xs) := fun i x2 x3 x4 x5 x6 x7 xs hi => by
  rw [zjK]
  simp only [zd1, zi i (show i < 4611686018427387904 by omega)]
 have key : ∀ r i, i + r = D -> ∀ xs : List (List Int), xs.length <= i -> ∃ y, zjJ ⟨(W : Int), (D : Int)⟩ (mk (D * (1 + W)) f) (first : Int) (many : Int) (.l0 (i : Int) xs) = some (y, !((List.range' i r).any fun i => !(okQ f W D first (many : Int) i))) := by
  intro r
  induction r with
  | zero =>
   intro i hi xs hx
   rw [Nat.add_zero] at hi
   subst hi
   refine ⟨xs, ?_⟩
   rw [zjK]
   simp only [zd1, zR (Nat.le_refl _), cnF, id]
   rfl
  | succ r ih =>
   intro i hi xs hx
   have hpl := zBZ hf hW hD1 hD (first := first) (i := i)
   have e1 : i64.wrap ((first : Int) + (i : Int)) = ((first + i : Nat) : Int) := zo _ _ (by omega) (by omega)
   have e2 : i64.wrap ((((first + i) % D : Nat) : Int) * ((1 + W : Nat) : Int)) = (((first + i) % D * (1 + W) : Nat) : Int) := zo _ _ (Int.natCast_mul _ _).symm (by omega)
   have e4 : i64.wrap ((((first + i) % D : Nat) : Int) + 1) = (((first + i) % D + 1 : Nat) : Int) := zi _ (by have := Nat.mod_lt (first + i) (show D > 0 by omega); omega)
   have e5 : i64.wrap ((((first + i) % D + 1 : Nat) : Int) * ((1 + W : Nat) : Int)) = (((first + i) % D * (1 + W) + (1 + W) : Nat) : Int) := zo _ _ (by rw [← Int.natCast_mul, Nat.add_mul, Nat.one_mul]) (by omega)
   generalize hp : (first + i) % D * (1 + W) = p at *
   have e6 : ((mk (D * (1 + W)) f).take (p + (1 + W))).drop p = mk (1 + W) fun j => f (p + j) := by rw [zbR (by omega), zcH, Nat.add_sub_cancel_left]
   obtain ⟨k1, k2⟩ := zw (zzQ (hf.sh p) hW)
   have k1' : ztR (mk (1 + W) fun j => f (p + j)) = _ := k1
   have k2' : zrw (mk (1 + W) fun j => f (p + j)) = true := k2
   have hok : okQ f W D first (many : Int) i = (zfW (fun j => f (p + j)) W && (decide ((i : Int) < (many : Int)) == decide (f p > 0))) := by
    unfold okQ; rw [hp]
   rw [zjK]
   simp only [zd1, zQ (show i < D by omega), dD, cnT, cnF, ef, em, e1, zA4, eW, e2, e4, e5, zW, e6, k1', k2', zM, inS_iff.2 (show 0 <= (p : Int) /\ (p : Int) <= ((p + (1 + W) : Nat) : Int) /\ ((p + (1 + W) : Nat) : Int) <= ((D * (1 + W) : Nat) : Int) from ⟨by omega, by omega, by omega⟩)]
   rw [List.range'_succ, List.any_cons, hok]
   cases hq : zfW (fun j => f (p + j)) W with
   | false => exact ⟨_, rfl⟩
   | true =>
    have h0 := (hf p).1
    have hlen : decide (((f p).toNat : Int) > 0) = decide (f p > 0) := by rw [show (((f p).toNat : Nat) : Int) = f p by omega]
    have hl2 : (mk (f (p + 0)).toNat fun i => f (p + (1 + i))).length = (f p).toNat := zM _ _
    simp only [Bool.not_true, cnT, cnF, hl2, hlen, Bool.true_and]
    have hcomm : (decide (f p > 0) == decide ((i : Int) < (many : Int))) = (decide ((i : Int) < (many : Int)) == decide (f p > 0)) := Bool.beq_comm
    rw [hcomm]
    cases hd : (decide ((i : Int) < (many : Int)) == decide (f p > 0)) with
    | false => exact ⟨_, rfl⟩
    | true =>
     obtain ⟨y, hy⟩ := ih (i + 1) (by omega) xs (by omega)
     obtain ⟨z, hz⟩ := ih (i + 1) (by omega) (xs ++ [mk (f (p + 0)).toNat fun i => f (p + (1 + i))]) (by rw [List.length_append]; exact Nat.succ_le_succ hx)
     cases hm : decide (f p > 0) with
     | false =>
      simp only [Bool.not_true, cnF, e9 i _ _ _ _ _ _ _ (by omega)]
      exact ⟨y, hy⟩
     | true =>
      simp only [Bool.not_true, cnF, cnT, e9 i _ _ _ _ _ _ _ (by omega), List.length_singleton, zaO (show (xs.length + 1) * 24 <= 140737488355328 by omega)]
      exact ⟨z, hz⟩
 unfold zgc zg4 zhh
 show ∃ r, cond (decide ((many : Int) > u32.wrap (D : Int))) _ (cond (decide ((first : Int) >= u32.wrap (D : Int))) _ _) = _
 rw [eD, decide_eq_false (show ¬ (many : Int) > (D : Int) by omega), cnF, decide_eq_false (show ¬ (first : Int) >= (D : Int) by omega), cnF, List.range_eq_range']
 exact key D 0 (by omega) [] (Nat.le_refl _)
end
def zmt (f : Nat -> Int) (W D : Nat) : Bool := decide (f 0 <= (D : Int)) && zhh (fun i => f (1 + i)) W D 0 (f 0)
def zms (f : Nat -> Int) (W D : Nat) : Bool := decide (f 0 < (D : Int)) && (decide (f 1 <= (D : Int)) && ((decide (f 1 > 0) || (f 0 == 0)) && zhh (fun i => f (3 + i)) W D (f 0).toNat (f 1)))
theorem zEP (b : Bool) : (cond b (0 : Int) 201 == 0) = b := by cases b <;> rfl
section
variable {f : Nat -> Int} (hf : U32 f) {W D : Nat} (hW1 : 1 <= W) (hW : W <= 16) (hD1 : 1 <= D) (hD : D <= 8) {N a : Nat} (hN : N <= 100000)
include hf hW1 hW hD1 hD hN
theorem dw : i64.wrap ((D : Int) * i64.wrap (1 + (W : Int))) = ((D * (1 + W) : Nat) : Int) /\ D * (1 + W) <= 136 := by
 have h2 := (zBZ hf hW hD1 hD (first := 0) (i := 0)).2
 refine ⟨?_, h2⟩
 rw [zo (1 + (W : Int)) (1 + W) (by omega) (by omega)]
 exact zo _ _ (Int.natCast_mul _ _).symm (by omega)
theorem zBi {n : Nat} (h : a + n <= N) : zmz (mk N f) (a : Int) (n : Int) = true := by
 unfold zmz zjM ziL
 rw [zM, decide_eq_true (show (a : Int) >= 0 by omega), decide_eq_true (show (a : Int) <= (N : Int) by omega), z9 ((N : Int) - (a : Int)) (by omega) (by omega), decide_eq_true (show (n : Int) <= (N : Int) - (a : Int) by omega)]
 rfl
theorem zzZ (ha : a + (1 + D * (1 + W)) <= N) : ∃ r, zxh (mk N f) (a : Int) (W : Int) (D : Int) = some (r, cond (zmt (fun i => f (a + i)) W D) 0 201) := by
 obtain ⟨d1, d2⟩ := dw hf hW1 hW hD1 hD hN
 have es : ztL (W : Int) (D : Int) = ((1 + D * (1 + W) : Nat) : Int) := by
  show i64.wrap (1 + i64.wrap ((D : Int) * i64.wrap (1 + (W : Int)))) = _
  rw [d1]; exact zo _ _ (by omega) (by omega)
 have e1 : i64.wrap ((a : Int) + 1) = ((a + 1 : Nat) : Int) := zi a (by omega)
 obtain ⟨r, hr⟩ := zJT hf hW hD1 hD (N := N) (a := a + 1) (first := 0) hN (by omega) (by omega) (f a)
 obtain ⟨k1, k2⟩ := zw hr
 have k1' : zdz (mk N f) ((a + 1 : Nat) : Int) (W : Int) (D : Int) 0 (f a) = _ := k1
 have k2' : zht (mk N f) ((a + 1 : Nat) : Int) (W : Int) (D : Int) 0 (f a) = true := k2
 unfold zxh zsM zmt
 rw [es, zBi hf hW1 hW hD1 hD hN ha, zM, zm (show a < N by omega), zW, zap (show a < N by omega), hf.w64, e1, k1', k2']
 have hsh : zhh (fun i => f (a + 1 + i)) W D 0 (f a) = zhh (fun i => f (a + (1 + i))) W D 0 (f a) := by
  have : (fun i => f (a + 1 + i)) = fun i => f (a + (1 + i)) := by funext i; rw [Nat.add_assoc]
  rw [this]
 show ∃ r, cond (decide (f a > (D : Int))) _ _ = some (r, cond (decide (f (a + 0) <= (D : Int)) && zhh (fun i => f (a + (1 + i))) W D 0 (f (a + 0))) 0 201)
 rw [show a + 0 = a from rfl, ← hsh]
 by_cases c : f a > (D : Int)
 . rw [decide_eq_true c, decide_eq_false (show ¬ f a <= (D : Int) by omega)]; exact ⟨_, rfl⟩
 . rw [decide_eq_false c, decide_eq_true (show f a <= (D : Int) by omega)]
   cases zhh (fun i => f (a + 1 + i)) W D 0 (f a) with
   | false => exact ⟨_, rfl⟩
   | true => exact ⟨_, rfl⟩
theorem zGA (ha : a + (3 + D * (1 + W)) <= N) : ∃ r, zxj (mk N f) (a : Int) (W : Int) (D : Int) = some (r, cond (zms (fun i => f (a + i)) W D) 0 201) := by
 obtain ⟨d1, d2⟩ := dw hf hW1 hW hD1 hD hN
 have es : ztM (W : Int) (D : Int) = ((3 + D * (1 + W) : Nat) : Int) := by
  show i64.wrap (3 + i64.wrap ((D : Int) * i64.wrap (1 + (W : Int)))) = _
  rw [d1]; exact zo _ _ (by omega) (by omega)
 have e1 : i64.wrap ((a : Int) + 1) = ((a + 1 : Nat) : Int) := zi a (by omega)
 have e2 : i64.wrap ((a : Int) + 2) = ((a + 2 : Nat) : Int) := zo _ _ (by omega) (by omega)
 have e3 : i64.wrap ((a : Int) + 3) = ((a + 3 : Nat) : Int) := zo _ _ (by omega) (by omega)
 have h0 := (hf a).1
 have h1 := (hf (a + 1)).1
 unfold zxj zsO zms
 rw [es, zBi hf hW1 hW hD1 hD hN ha, zM, zm (show a < N by omega), zW, zap (show a < N by omega), hf.w64, e1, zm (show a + 1 < N by omega), zW, zap (show a + 1 < N by omega), hf.w64, e2, zm (show a + 2 < N by omega), e3]
 show ∃ r, cond (decide (f a >= (D : Int))) _ _ = some (r, cond (decide (f (a + 0) < (D : Int)) && (decide (f (a + 1) <= (D : Int)) && ((decide (f (a + 1) > 0) || (f (a + 0) == 0)) && zhh (fun i => f (a + (3 + i))) W D (f (a + 0)).toNat (f (a + 1))))) 0 201)
 rw [show a + 0 = a from rfl]
 by_cases c : f a >= (D : Int)
 . rw [decide_eq_true c, decide_eq_false (show ¬ f a < (D : Int) by omega)]; exact ⟨_, rfl⟩
 . rw [decide_eq_false c, decide_eq_true (show f a < (D : Int) by omega), cnF]
   by_cases c2 : f (a + 1) > (D : Int)
   . rw [decide_eq_true c2, decide_eq_false (show ¬ f (a + 1) <= (D : Int) by omega)]; exact ⟨_, rfl⟩
   . rw [decide_eq_false c2, decide_eq_true (show f (a + 1) <= (D : Int) by omega), cnF]
     obtain ⟨r, hr⟩ := zJT hf hW hD1 hD (N := N) (a := a + 3) (first := (f a).toNat) hN (by omega) (by omega) (f (a + 1))
     rw [show (((f a).toNat : Nat) : Int) = f a by omega] at hr
     obtain ⟨k1, k2⟩ := zw hr
     have k1' : zdz (mk N f) ((a + 3 : Nat) : Int) (W : Int) (D : Int) (f a) (f (a + 1)) = _ := k1
     have k2' : zht (mk N f) ((a + 3 : Nat) : Int) (W : Int) (D : Int) (f a) (f (a + 1)) = true := k2
     have hsh : zhh (fun i => f (a + 3 + i)) W D (f a).toNat (f (a + 1)) = zhh (fun i => f (a + (3 + i))) W D (f a).toNat (f (a + 1)) := by
      have : (fun i => f (a + 3 + i)) = fun i => f (a + (3 + i)) := by funext i; rw [Nat.add_assoc]
      rw [this]
     rw [k1', k2', ← hsh]
     have hz : (f (a + 1) == 0) = !decide (f (a + 1) > 0) := by
      by_cases z : f (a + 1) = 0
      . rw [z]; rfl
      . rw [beq_eq_false_iff_ne.2 z, decide_eq_true (show f (a + 1) > 0 by omega)]; rfl
     rw [hz]
     cases decide (f (a + 1) > 0) <;> cases f a == 0 <;> cases zhh (fun i => f (a + 3 + i)) W D (f a).toNat (f (a + 1)) <;> exact ⟨_, rfl⟩
theorem zAD (h : Nat) (hh : h <= 3) : zac ⟨(W : Int), (D : Int)⟩ (h : Int) = ((h + D * (1 + W) : Nat) : Int) := by
 obtain ⟨d1, d2⟩ := dw hf hW1 hW hD1 hD hN
 show i64.wrap ((h : Int) + i64.wrap ((D : Int) * i64.wrap (1 + (W : Int)))) = _
 rw [d1]; exact zo _ _ (by omega) (by omega)
theorem zv2 (m : MemMemory) : zic (some m) ⟨(W : Int), (D : Int)⟩ = 0 := by
 unfold zic zjO ziR
 have h1 : (some m).isNone = false := rfl
 rw [h1, cnF]
 show Option.getD (cond (decide ((W : Int) < 1)) (some (id 1)) (cond (decide ((W : Int) > 16)) (some (id 1)) (cond (decide ((D : Int) < 1)) (some (id 1)) (cond (decide ((D : Int) > 8)) (some (id 1)) (some (id 0)))))) default = (0 : Int)
 rw [decide_eq_false (show ¬ ((W : Int) < 1) by omega), decide_eq_false (show ¬ ((W : Int) > 16) by omega), decide_eq_false (show ¬ ((D : Int) < 1) by omega), decide_eq_false (show ¬ ((D : Int) > 8) by omega)]; rfl
theorem zyg (h : Nat) (hh : h <= 3) (ha : a + (h + D * (1 + W)) <= N) : zqU ⟨(W : Int), (D : Int)⟩ (some ⟨mk N f⟩) (a : Int) (h : Int) = some true := by
 obtain ⟨k1, k2⟩ := zw (zrC (f := f) hN ha)
 have k1' : z6 (some ⟨mk N f⟩) (a : Int) ((h + D * (1 + W) : Nat) : Int) = _ := k1
 have k2' : zd8 (some ⟨mk N f⟩) (a : Int) ((h + D * (1 + W) : Nat) : Int) = true := k2
 unfold zqU zlK
 rw [zAD hf hW1 hW hD1 hD hN h hh, k1', k2']; rfl
theorem zqe {g : Nat -> Int} (l : List Int) (first many : Int) (h : many > (D : Int) ∨ first >= (D : Int)) : zgc ⟨(W : Int), (D : Int)⟩ l first many = some ([], false) := by
 have eD : u32.wrap (D : Int) = (D : Int) := zd9 (by omega) (by omega)
 unfold zgc zg4
 show cond (decide (many > u32.wrap (D : Int))) _ (cond (decide (first >= u32.wrap (D : Int))) _ _) = _
 rw [eD]
 by_cases c : many > (D : Int)
 . rw [decide_eq_true c]; rfl
 . rw [decide_eq_false c, decide_eq_true (show first >= (D : Int) by omega)]; rfl
theorem zHy (ha : a + (1 + D * (1 + W)) <= N) : ∃ r, zqV ⟨(W : Int), (D : Int)⟩ (some ⟨mk N f⟩) (a : Int) = some (r, zmt (fun i => f (a + i)) W D) := by
 obtain ⟨d1, d2⟩ := dw hf hW1 hW hD1 hD hN
 obtain ⟨k1, k2⟩ := zw (zrC (f := f) hN ha)
 have k1' : z6 (some ⟨mk N f⟩) (a : Int) ((1 + D * (1 + W) : Nat) : Int) = _ := k1
 have k2' : zd8 (some ⟨mk N f⟩) (a : Int) ((1 + D * (1 + W) : Nat) : Int) = true := k2
 have h0 := (hf (a + 0)).1
 have hrd : ∃ r, zgc ⟨(W : Int), (D : Int)⟩ (mk (D * (1 + W)) fun i => f (a + (1 + i))) 0 (f (a + 0)) = some (r, zmt (fun i => f (a + i)) W D) := by
  unfold zmt
  by_cases c : f (a + 0) > (D : Int)
  . rw [zqe hf hW1 hW hD1 hD hN _ _ _ (.inl c) (g := f), decide_eq_false (show ¬ f (a + 0) <= (D : Int) by omega)]; exact ⟨_, rfl⟩
  . rw [decide_eq_true (show f (a + 0) <= (D : Int) by omega)]
    obtain ⟨r, hr⟩ := zB7 (f := fun i => f (a + (1 + i))) (fun i => hf _) hW hD1 hD (first := 0) (by omega) (many := (f (a + 0)).toNat) (by omega)
    rw [show (((f (a + 0)).toNat : Nat) : Int) = f (a + 0) by omega] at hr
    exact ⟨r, hr⟩
 obtain ⟨r, hr⟩ := hrd
 obtain ⟨m1, m2⟩ := zw hr
 have m1' : zf7 ⟨(W : Int), (D : Int)⟩ (mk (D * (1 + W)) fun i => f (a + (1 + i))) 0 (f (a + 0)) = _ := m1
 have m2' : zj1 ⟨(W : Int), (D : Int)⟩ (mk (D * (1 + W)) fun i => f (a + (1 + i))) 0 (f (a + 0)) = true := m2
 have e1 := zAD hf hW1 hW hD1 hD hN 1 (by omega)
 unfold zqV zlL
 rw [show ((1 : Nat) : Int) = 1 from rfl] at e1
 simp only [e1, k1', k2', cnT, zM, inS_iff.2 (show (0 : Int) <= 1 /\ (1 : Int) <= ((1 + D * (1 + W) : Nat) : Int) /\ ((1 + D * (1 + W) : Nat) : Int) <= ((1 + D * (1 + W) : Nat) : Int) from ⟨by omega, by omega, by omega⟩), zbi (x := 0) (n := 1 + D * (1 + W)) (Int.le_refl _) (by omega), zap (show 0 < 1 + D * (1 + W) by omega), zW, zbR (Nat.le_refl _), zcH, Nat.add_sub_cancel_left, m1', m2', id]
 exact ⟨_, rfl⟩
theorem zOo (ha : a + (3 + D * (1 + W)) <= N) : ∃ r, zqW ⟨(W : Int), (D : Int)⟩ (some ⟨mk N f⟩) (a : Int) = some (r, zms (fun i => f (a + i)) W D) := by
 obtain ⟨d1, d2⟩ := dw hf hW1 hW hD1 hD hN
 obtain ⟨k1, k2⟩ := zw (zrC (f := f) hN ha)
 have k1' : z6 (some ⟨mk N f⟩) (a : Int) ((3 + D * (1 + W) : Nat) : Int) = _ := k1
 have k2' : zd8 (some ⟨mk N f⟩) (a : Int) ((3 + D * (1 + W) : Nat) : Int) = true := k2
 have h0 := (hf (a + 0)).1
 have h1 := (hf (a + 1)).1
 have hrd : ∃ r b, zgc ⟨(W : Int), (D : Int)⟩ (mk (D * (1 + W)) fun i => f (a + (3 + i))) (f (a + 0)) (f (a + 1)) = some (r, b) /\ zms (fun i => f (a + i)) W D = (b && (decide (f (a + 1) > 0) || (f (a + 0) == 0))) := by
  unfold zms
  by_cases c : f (a + 1) > (D : Int)
  . exact ⟨_, _, zqe hf hW1 hW hD1 hD hN _ _ _ (.inl c) (g := f), by
     show (_ && (decide (f (a + 1) <= (D : Int)) && _)) = _
     rw [decide_eq_false (show ¬ f (a + 1) <= (D : Int) by omega), Bool.false_and, Bool.and_false, Bool.false_and]⟩
  . by_cases c2 : f (a + 0) >= (D : Int)
    . exact ⟨_, _, zqe hf hW1 hW hD1 hD hN _ _ _ (.inr c2) (g := f), by rw [decide_eq_false (show ¬ f (a + 0) < (D : Int) by omega), Bool.false_and, Bool.false_and]⟩
    . obtain ⟨r, hr⟩ := zB7 (f := fun i => f (a + (3 + i))) (fun i => hf _) hW hD1 hD (first := (f (a + 0)).toNat) (by omega) (many := (f (a + 1)).toNat) (by omega)
      rw [show (((f (a + 1)).toNat : Nat) : Int) = f (a + 1) by omega, show (((f (a + 0)).toNat : Nat) : Int) = f (a + 0) by omega] at hr
      refine ⟨r, _, hr, ?_⟩
      show (decide (f (a + 0) < (D : Int)) && (decide (f (a + 1) <= (D : Int)) && ((decide (f (a + 1) > 0) || (f (a + 0) == 0)) && zhh (fun i => f (a + (3 + i))) W D (f (a + 0)).toNat (f (a + 1))))) = _
      rw [decide_eq_true (show f (a + 0) < (D : Int) by omega), decide_eq_true (show f (a + 1) <= (D : Int) by omega), Bool.true_and, Bool.true_and, Bool.and_comm]
 obtain ⟨r, b, hr, hb⟩ := hrd
 obtain ⟨m1, m2⟩ := zw hr
 have m1' : zf7 ⟨(W : Int), (D : Int)⟩ (mk (D * (1 + W)) fun i => f (a + (3 + i))) (f (a + 0)) (f (a + 1)) = _ := m1
 have m2' : zj1 ⟨(W : Int), (D : Int)⟩ (mk (D * (1 + W)) fun i => f (a + (3 + i))) (f (a + 0)) (f (a + 1)) = true := m2
 have e1 := zAD hf hW1 hW hD1 hD hN 3 (by omega)
 rw [show ((3 : Nat) : Int) = 3 from rfl] at e1
 unfold zqW zlM
 simp only [e1, k1', k2', cnT, zM, inS_iff.2 (show (0 : Int) <= 3 /\ (3 : Int) <= ((3 + D * (1 + W) : Nat) : Int) /\ ((3 + D * (1 + W) : Nat) : Int) <= ((3 + D * (1 + W) : Nat) : Int) from ⟨by omega, by omega, by omega⟩), zbi (x := 0) (n := 3 + D * (1 + W)) (Int.le_refl _) (by omega), zbi (x := 1) (n := 3 + D * (1 + W)) (by decide) (by omega), zbi (x := 2) (n := 3 + D * (1 + W)) (by decide) (by omega), zap (show 0 < 3 + D * (1 + W) by omega), zap (show 1 < 3 + D * (1 + W) by omega), zap (show 2 < 3 + D * (1 + W) by omega), zW, zbR (Nat.le_refl _), zcH, Nat.add_sub_cancel_left, m1', m2', id, hb]
 cases b with
 | false => exact ⟨_, rfl⟩
 | true =>
  cases decide (f (a + 1) > 0) with
  | false => exact ⟨_, rfl⟩
  | true => exact ⟨_, rfl⟩
theorem zzY (ha : a + (1 + D * (1 + W)) <= N) : ∃ r, zxp (some ⟨mk N f⟩) (a : Int) (W : Int) (D : Int) = some (r, cond (zmt (fun i => f (a + i)) W D) 0 201) := by
 obtain ⟨r, hr⟩ := zHy hf hW1 hW hD1 hD hN ha
 obtain ⟨k1, k2⟩ := zw hr
 have k1' : zkv ⟨(W : Int), (D : Int)⟩ (some ⟨mk N f⟩) (a : Int) = _ := k1
 have k2' : zrp ⟨(W : Int), (D : Int)⟩ (some ⟨mk N f⟩) (a : Int) = true := k2
 obtain ⟨t1, t2⟩ := zw (zyg hf hW1 hW hD1 hD hN 1 (by omega) ha)
 have t1' : zo9 ⟨(W : Int), (D : Int)⟩ (some ⟨mk N f⟩) (a : Int) 1 = true := t1
 have t2' : zj0 ⟨(W : Int), (D : Int)⟩ (some ⟨mk N f⟩) (a : Int) 1 = true := t2
 have hst : ∃ y, zqD ⟨(W : Int), (D : Int)⟩ (some ⟨mk N f⟩) (a : Int) = some (y, cond (zmt (fun i => f (a + i)) W D) 0 201) := by
  unfold zqD zlt
  rw [t1', t2', k1', k2']
  cases zmt (fun i => f (a + i)) W D with
  | false => exact ⟨_, rfl⟩
  | true => exact ⟨_, rfl⟩
 obtain ⟨y, hy⟩ := hst
 obtain ⟨s1, s2⟩ := zw hy
 have s1' : zkr ⟨(W : Int), (D : Int)⟩ (some ⟨mk N f⟩) (a : Int) = _ := s1
 have s2' : zrd ⟨(W : Int), (D : Int)⟩ (some ⟨mk N f⟩) (a : Int) = true := s2
 unfold zxp zsW
 rw [zv2 hf hW1 hW hD1 hD hN, s1', s2']
 exact ⟨_, rfl⟩
theorem zGz (ha : a + (3 + D * (1 + W)) <= N) : ∃ x y, zxr (some ⟨mk N f⟩) (a : Int) (W : Int) (D : Int) = some (x, y, cond (zms (fun i => f (a + i)) W D) 0 201) := by
 obtain ⟨r, hr⟩ := zOo hf hW1 hW hD1 hD hN ha
 obtain ⟨k1, k2⟩ := zw hr
 have k1' : zkw ⟨(W : Int), (D : Int)⟩ (some ⟨mk N f⟩) (a : Int) = _ := k1
 have k2' : zrq ⟨(W : Int), (D : Int)⟩ (some ⟨mk N f⟩) (a : Int) = true := k2
 obtain ⟨t1, t2⟩ := zw (zyg hf hW1 hW hD1 hD hN 3 (by omega) ha)
 have t1' : zo9 ⟨(W : Int), (D : Int)⟩ (some ⟨mk N f⟩) (a : Int) 3 = true := t1
 have t2' : zj0 ⟨(W : Int), (D : Int)⟩ (some ⟨mk N f⟩) (a : Int) 3 = true := t2
 have hst : ∃ x y, zqE (some ⟨mk N f⟩) (a : Int) (W : Int) (D : Int) = some (x, y, cond (zms (fun i => f (a + i)) W D) 0 201) := by
  unfold zqE zlu
  rw [zv2 hf hW1 hW hD1 hD hN, t1', t2', k1', k2']
  cases zms (fun i => f (a + i)) W D with
  | false => exact ⟨_, _, rfl⟩
  | true => exact ⟨_, _, rfl⟩
 obtain ⟨x, y, hy⟩ := hst
 obtain ⟨s1, s2⟩ := zw hy
 have s1' : zf5 (some ⟨mk N f⟩) (a : Int) (W : Int) (D : Int) = _ := s1
 have s2' : zre (some ⟨mk N f⟩) (a : Int) (W : Int) (D : Int) = true := s2
 unfold zxr zsY
 rw [s1', s2']
 exact ⟨_, _, rfl⟩
end
noncomputable def zbZ (s : Int × Int × List ChannelPlace) (x : Pc) : Int × Int × List ChannelPlace :=
 let j := x.2.2.index.toNat
 let y := ze s.2.2 j
 let z := ze s.2.2 s.1.toNat
 if x.2.2.kind = 2 then (s.1, (x.1 : Int), s.2.2)
 else if x.2.2.kind = 6 then (x.2.2.index, s.2.1, List.set s.2.2 j ⟨(x.1 : Int), y.stage, y.partition, y.port, y.dests⟩)
 else if x.2.2.kind = 7 then (s.1, s.2.1, List.set s.2.2 j ⟨y.lock, (x.1 : Int), y.partition, y.port, y.dests⟩)
 else if x.2.2.kind = 8 then (s.1, s.2.1, List.set s.2.2 s.1.toNat ⟨z.lock, z.stage, z.partition, z.port, z.dests ++ [⟨x.2.2.index, x.2.2.port, (x.1 : Int)⟩]⟩)
 else s
section
variable {c : Config} (g : zan c) (hk : 0 <= c.kernel /\ c.kernel < 1024)
include g hk
theorem ztD {i : Nat} (hi : i < (z4 c).length) {x0 x1 x3 : Int} {x4 : List PartitionPlace} {x5 : List ChannelPlace} (h : Inv c i x0 x4 x5) (hi4 : i <= 4000) : Inv c (i + 1) (zbZ (x0, x3, x5) (z4 c)[i]).1 (za4 x4 (z4 c)[i]) (zbZ (x0, x3, x5) (z4 c)[i]).2.2 /\ zbL c (.l4 x0 x1 (i : Int) x3 x4 x5) = zbL c (.l4 (zbZ (x0, x3, x5) (z4 c)[i]).1 (((z4 c)[i].1 + (z4 c)[i].2.1 : Nat) : Int) ((i + 1 : Nat) : Int) (zbZ (x0, x3, x5) (z4 c)[i]).2.1 (za4 x4 (z4 c)[i]) (zbZ (x0, x3, x5) (z4 c)[i]).2.2) := by
 obtain ⟨p1, p2⟩ := zw (zcg g hk)
 have p1' : zer c = (z4 c).map mkR := p1
 have hm : (z4 c)[i] ∈ z4 c := List.getElem_mem hi
 have he := zqi g hk hm
 have e81 : ∀ (a b d : Int) x y, zbL c (.l81 a b (i : Int) d x y) = zbL c (.l4 a b ((i + 1 : Nat) : Int) d x y) := fun a b d x y => by
  rw [zaT]
  simp only [zbC, zi i (show i < 4611686018427387904 by omega)]
 have hl : i < ((z4 c).map mkR).length := by rw [List.length_map]; exact hi
 have ew : i64.wrap ((mkR (z4 c)[i]).at_ + (mkR (z4 c)[i]).size) = (((z4 c)[i].1 + (z4 c)[i].2.1 : Nat) : Int) := zo _ _ (by simp only [mkR]; omega) (by omega)
 have hr : ∀ {x : Int} {n : Nat}, 0 <= x -> x < n -> zN x n = true := zbi
 have hok := zwr (ref_mem.1 hm)
 have eq16 : bop .quo .i64 (((z4 c)[i].1 : Nat) : Int) 16 = (((z4 c)[i].1 / 16 : Nat) : Int) := zch _ (by omega)
 rw [zaT]
 simp only [zbC, p1', zW, zQ hl, zm hl, cnT, zk5 hi, ew, e81, Nat.beq_refl]
 have ho : (mkR (z4 c)[i]).owner = (z4 c)[i].2.2 := rfl
 have ha : (mkR (z4 c)[i]).at_ = (((z4 c)[i].1 : Nat) : Int) := rfl
 rw [ho, ha, eq16]
 have h4 := h.l4
 have h5 := h.l5
 generalize (z4 c)[i] = x at *
 rcases hok with k | ⟨k, j, hj, ij⟩ | ⟨k, j, hj, ij⟩ | ⟨k, hc⟩
 . have e : za4 x4 x = x4 := by unfold za4; rw [k]; rfl
   have e5 : zbZ (x0, x3, x5) x = (x0, (x.1 : Int), x5) := by unfold zbZ; rw [k]; rfl
   rw [e, e5, k]; refine ⟨?_, rfl⟩; exact h.up
 . have hj4 : j < x4.length := by omega
   have hmem := h.t _ (zk6 hj4)
   rw [ij]
   simp only [zm hj4, zW, cnT]
   have e5 : zbZ (x0, x3, x5) x = (x0, x3, x5) := by unfold zbZ; rcases k with k | k | k | k <;> rw [k] <;> rfl
   rw [e5]
   rcases k with k | k | k | k
   . have e : za4 x4 x = List.set x4 j ⟨(x.1 : Int), (zb x4 j).save, (zb x4 j).state, (zb x4 j).root, (zb x4 j).tables⟩ := by unfold za4; rw [k, ij]; rfl
     rw [e, k]; refine ⟨?_, rfl⟩; exact h.set4 (Nat.le_succ_of_le hmem)
   . have e : za4 x4 x = List.set x4 j ⟨(zb x4 j).lock, (x.1 : Int), (zb x4 j).state, (zb x4 j).root, (zb x4 j).tables⟩ := by unfold za4; rw [k, ij]; rfl
     rw [e, k]; refine ⟨?_, rfl⟩; exact h.set4 (Nat.le_succ_of_le hmem)
   . have e : za4 x4 x = List.set x4 j ⟨(zb x4 j).lock, (zb x4 j).save, (x.1 : Int), (zb x4 j).root, (zb x4 j).tables⟩ := by unfold za4; rw [k, ij]; rfl
     rw [e, k]; refine ⟨?_, rfl⟩; exact h.set4 (Nat.le_succ_of_le hmem)
   . have b1 : ∀ y : Int, leB (((zb x4 j).tables.length + [y].length) * 8) 140737488355328 = true := zco (by omega) (by omega)
     simp only [b1, cnT]
     by_cases hroot : (zb x4 j).root = 0
     . have e : za4 x4 x = List.set x4 j ⟨(zb x4 j).lock, (zb x4 j).save, (zb x4 j).state, ((x.1 / 16 : Nat) : Int), (zb x4 j).tables⟩ := by
        unfold za4; rw [k, ij]
        show (if (zb x4 j).root = 0 then _ else _) = _
        rw [if_pos hroot]; rfl
       have hb : ((zb x4 j).root == 0) = true := by rw [hroot]; rfl
       rw [e, k, hb]; refine ⟨?_, rfl⟩; exact h.set4 (Nat.le_succ_of_le hmem)
     . have e : za4 x4 x = List.set x4 j ⟨(zb x4 j).lock, (zb x4 j).save, (zb x4 j).state, (zb x4 j).root, (zb x4 j).tables ++ [((x.1 / 16 : Nat) : Int)]⟩ := by
        unfold za4; rw [k, ij]
        show (if (zb x4 j).root = 0 then _ else _) = _
        rw [if_neg hroot]; rfl
       have hb : ((zb x4 j).root == 0) = false := beq_eq_false_iff_ne.2 hroot
       rw [e, k, hb]; refine ⟨?_, rfl⟩; exact h.set4 (by rw [List.length_append]; exact Nat.succ_le_succ hmem)
 . have hj5 : j < x5.length := by omega
   have hmem := h.d _ (zbJ hj5)
   have e : za4 x4 x = x4 := by unfold za4; rcases k with k | k <;> rw [k] <;> rfl
   rw [e, ij]
   simp only [zm hj5, zW, cnT]
   rcases k with k | k
   . have e5 : zbZ (x0, x3, x5) x = ((j : Int), x3, List.set x5 j ⟨(x.1 : Int), (ze x5 j).stage, (ze x5 j).partition, (ze x5 j).port, (ze x5 j).dests⟩) := by unfold zbZ; rw [k, ij]; rfl
     rw [e5, k]; refine ⟨?_, rfl⟩; exact Inv.setc (x0 := x0) (h.set5 (Nat.le_succ_of_le hmem)) ⟨Int.natCast_nonneg _, fun _ => Int.ofNat_lt.2 hj⟩
   . have e5 : zbZ (x0, x3, x5) x = (x0, x3, List.set x5 j ⟨(ze x5 j).lock, (x.1 : Int), (ze x5 j).partition, (ze x5 j).port, (ze x5 j).dests⟩) := by unfold zbZ; rw [k, ij]; rfl
     rw [e5, k]; refine ⟨?_, rfl⟩; exact h.set5 (Nat.le_succ_of_le hmem)
 . obtain ⟨c1, c2⟩ := h.ch
   have c2 := c2 hc
   have hmem := h.d _ (zbJ (xs := x5) (i := x0.toNat) (by omega))
   have b1 : ∀ y : DestPlace, leB (((ze x5 x0.toNat).dests.length + [y].length) * 24) 140737488355328 = true := zco (by omega) (by omega)
   have e : za4 x4 x = x4 := by unfold za4; rw [k]; rfl
   have e5 : zbZ (x0, x3, x5) x = (x0, x3, List.set x5 x0.toNat ⟨(ze x5 x0.toNat).lock, (ze x5 x0.toNat).stage, (ze x5 x0.toNat).partition, (ze x5 x0.toNat).port, (ze x5 x0.toNat).dests ++ [⟨x.2.2.index, x.2.2.port, (x.1 : Int)⟩]⟩) := by unfold zbZ; rw [k]; rfl
   rw [e, e5, k]
   simp only [hr c1 (show x0 < (x5.length : Nat) by omega), b1, cnT]
   refine ⟨?_, rfl⟩; exact h.set5 (by rw [List.length_append]; exact Nat.succ_le_succ hmem)
theorem zBK : ∀ m i, i + (m + 1) = (z4 c).length -> ∀ (x0 x1 x3 : Int) (x4 : List PartitionPlace) (x5 : List ChannelPlace), Inv c i x0 x4 x5 -> ∃ L : Layout, zbL c (.l4 x0 x1 (i : Int) x3 x4 x5) = some (L, 0) /\ L.partitions = ((z4 c).drop i).foldl za4 x4 /\ L.barrier = (((z4 c).drop i).foldl zbZ (x0, x3, x5)).2.1 /\ L.channels = (((z4 c).drop i).foldl zbZ (x0, x3, x5)).2.2 := by
 have hlen := zqj g hk
 intro m
 induction m with
 | zero =>
  intro i hi x0 x1 x3 x4 x5 h
  have hil : i < (z4 c).length := by omega
  obtain ⟨h', e⟩ := ztD g hk hil (x0 := x0) (x1 := x1) (x3 := x3) h (by omega)
  obtain ⟨p1, p2⟩ := zw (zcg g hk)
  have p1' : zer c = (z4 c).map mkR := p1
  rw [e]
  have hf : decide (((i + 1 : Nat) : Int) < (((z4 c).map mkR).length : Int)) = false := zR (by rw [List.length_map]; omega)
  rw [zaT]
  simp only [zbC, p1', hf, cnF, id]
  refine ⟨_, rfl, ?_⟩
  rw [List.drop_eq_getElem_cons hil, List.drop_eq_nil_of_le (by omega)]
  exact ⟨rfl, rfl, rfl⟩
 | succ m ih =>
  intro i hi x0 x1 x3 x4 x5 h
  have hil : i < (z4 c).length := by omega
  obtain ⟨h', e⟩ := ztD g hk hil (x0 := x0) (x1 := x1) (x3 := x3) h (by omega)
  rw [e, List.drop_eq_getElem_cons hil]
  exact ih (i + 1) (by omega) _ _ _ _ _ h'
end
noncomputable def FH (c : Config) (f : Nat -> ChannelPlace) : List ChannelPlace := (List.range (nC c)).map f
theorem znS {c : Config} {f : Nat -> ChannelPlace} {j : Nat} (h : j < nC c) : ze (FH c f) j = f j := by
 simp [ze, FH, List.getD, h]
theorem zuE {c : Config} {f : Nat -> ChannelPlace} {j : Nat} {y : ChannelPlace} (h : j < nC c) : List.set (FH c f) j y = FH c (fun q => if q = j then y else f q) := by
 refine List.ext_getElem (by simp [FH]) fun i h1 h2 => ?_
 simp only [FH, List.getElem_set, List.getElem_map, List.getElem_range]
 by_cases hij : j = i
 . rw [if_pos hij, if_pos hij.symm]
 . rw [if_neg hij, if_neg (fun e => hij e.symm)]
theorem zQo {c : Config} {xs : List ChannelPlace} (h : xs.length = nC c) : xs = FH c (ze xs) := by
 refine List.ext_getElem (by simp [FH, h]) fun i h1 h2 => ?_
 simp [FH, ze, List.getD, h1]
theorem zpT {s : Int × Int × List ChannelPlace} {x : Pc} (h : x.2.2.kind = 3 ∨ x.2.2.kind = 4 ∨ x.2.2.kind = 5 ∨ x.2.2.kind = 9) : zbZ s x = s := by
 unfold zbZ; rcases h with k | k | k | k <;> rw [k] <;> rfl
theorem zjn {s : Int × Int × List ChannelPlace} : ∀ {l : List Pc}, (∀ x ∈ l, zbZ s x = s) -> l.foldl zbZ s = s
 | [], _ => rfl
 | x :: l, h => by rw [List.foldl_cons, h x (List.mem_cons_self), zjn fun y hy => h y (List.mem_cons_of_mem _ hy)]
theorem zl6 {c : Config} {k : Nat} (hk : k < nC c) (s : Nat) (b : Int) : ∀ (l : List LayoutEnd) (a : Nat) (f : Nat -> ChannelPlace), (zaz s a l).foldl zbZ ((k : Int), b, FH c f) = ((k : Int), b, FH c fun q => if q = k then ⟨(f k).lock, (f k).stage, (f k).partition, (f k).port, (f k).dests ++ zao s a l⟩ else f q)
 | [], a, f => by
  show ((k : Int), b, FH c f) = _
  congr 2
  unfold FH
  refine List.map_congr_left fun q _ => ?_
  by_cases h : q = k
  . subst h; rw [if_pos rfl]; simp [zao]
  . rw [if_neg h]
 | e :: l, a, f => by
  have e1 : zbZ ((k : Int), b, FH c f) (a, s, ⟨8, e.partition, e.port⟩) = ((k : Int), b, FH c fun q => if q = k then ⟨(f k).lock, (f k).stage, (f k).partition, (f k).port, (f k).dests ++ [⟨e.partition, e.port, (a : Int)⟩]⟩ else f q) := by
   unfold zbZ
   show ((k : Int), b, List.set (FH c f) (k : Int).toNat ⟨(ze (FH c f) (k : Int).toNat).lock, (ze (FH c f) (k : Int).toNat).stage, (ze (FH c f) (k : Int).toNat).partition, (ze (FH c f) (k : Int).toNat).port, (ze (FH c f) (k : Int).toNat).dests ++ [⟨e.partition, e.port, (a : Int)⟩]⟩) = _
   rw [zW, znS hk, zuE hk]
  rw [zaz, List.foldl_cons, e1, zl6 hk s b l (a + s)]
  congr 2
  unfold FH
  refine List.map_congr_left fun q _ => ?_
  by_cases h : q = k
  . subst h; simp [zao]
  . rw [if_neg h, if_neg h, if_neg h]
noncomputable def chW (c : Config) (k : Nat) (y : ChannelPlace) : ChannelPlace := ⟨(cAt c k : Int), ((cAt c k + 2 : Nat) : Int), y.partition, y.port, y.dests ++ zao (prt (Ch c k)) (dAt c k) (dl c k)⟩
theorem zkk {c : Config} (b : Int) (f : Nat -> ChannelPlace) (cur : Int) : ∀ n, n <= nC c -> ∃ cur', (zbU c n).foldl zbZ (cur, b, FH c f) = (cur', b, FH c fun q => if q < n then chW c q (f q) else f q)
 | 0, _ => ⟨cur, by
  show (cur, b, FH c f) = _
  congr 2⟩
 | n + 1, h => by
  obtain ⟨cur', e⟩ := zkk (c := c) b f cur n (by omega)
  have hn : n < nC c := by omega
  refine ⟨(n : Int), ?_⟩
  rw [zbU, List.foldl_append, List.foldl_append, e]
  generalize hg : (fun q => if q < n then chW c q (f q) else f q) = f1
  have hf1 : f1 n = f n := by rw [← hg]; exact if_neg (by omega)
  have e6 : zbZ (cur', b, FH c f1) (cAt c n, 2, ⟨6, (n : Int), 0⟩) = ((n : Int), b, FH c fun q => if q = n then ⟨(cAt c n : Int), (f1 n).stage, (f1 n).partition, (f1 n).port, (f1 n).dests⟩ else f1 q) := by
   unfold zbZ
   show ((n : Int), b, List.set (FH c f1) (n : Int).toNat ⟨(cAt c n : Int), (ze (FH c f1) (n : Int).toNat).stage, (ze (FH c f1) (n : Int).toNat).partition, (ze (FH c f1) (n : Int).toNat).port, (ze (FH c f1) (n : Int).toNat).dests⟩) = _
   rw [zW, znS hn, zuE hn]
  have e7 : ∀ f2 : Nat -> ChannelPlace, zbZ ((n : Int), b, FH c f2) (cAt c n + 2, stg (Ch c n), ⟨7, (n : Int), 0⟩) = ((n : Int), b, FH c fun q => if q = n then ⟨(f2 n).lock, ((cAt c n + 2 : Nat) : Int), (f2 n).partition, (f2 n).port, (f2 n).dests⟩ else f2 q) := fun f2 => by
   unfold zbZ
   show ((n : Int), b, List.set (FH c f2) (n : Int).toNat ⟨(ze (FH c f2) (n : Int).toNat).lock, ((cAt c n + 2 : Nat) : Int), (ze (FH c f2) (n : Int).toNat).partition, (ze (FH c f2) (n : Int).toNat).port, (ze (FH c f2) (n : Int).toNat).dests⟩) = _
   rw [zW, znS hn, zuE hn]
  rw [zeh, List.foldl_cons, List.foldl_cons, List.foldl_nil, e6, e7, zl6 hn]
  congr 2
  unfold FH
  refine List.map_congr_left fun q _ => ?_
  by_cases h : q = n
  . subst h
    simp only [if_true, if_pos (show q < q + 1 by omega), hf1]
    rfl
  . simp only [if_neg h]
    rw [← hg]
    show (if q < n then chW c q (f q) else f q) = _
    by_cases h2 : q < n
    . rw [if_pos h2, if_pos (show q < n + 1 by omega)]
    . rw [if_neg h2, if_neg (show ¬ q < n + 1 by omega)]
theorem zzK (c : Config) (b : Int) (f : Nat -> ChannelPlace) (cur : Int) : ∃ cur', (z4 c).foldl zbZ (cur, b, FH c f) = (cur', ((16 * K0 c : Nat) : Int), FH c fun q => chW c q (f q)) := by
 obtain ⟨cur', e⟩ := zkk (c := c) ((16 * K0 c : Nat) : Int) f cur (nC c) (Nat.le_refl _)
 refine ⟨cur', ?_⟩
 rw [z4, List.foldl_append, List.foldl_append, List.foldl_append]
 have hb : (bar c).foldl zbZ (cur, b, FH c f) = (cur, ((16 * K0 c : Nat) : Int), FH c f) := rfl
 rw [hb, zjn (l := zbj c (nP c)) (fun x hx => zpT (by
  obtain ⟨i, _, hx⟩ := (zjv c _).1 hx
  simp only [zep, List.mem_cons, List.mem_singleton, List.not_mem_nil, or_false] at hx
  rcases hx with rfl | rfl | rfl
  . exact .inl rfl
  . exact .inr (.inl rfl)
  . exact .inr (.inr (.inl rfl)))), e, zjn (l := zc1 c (nP c)) (fun x hx => zpT (by
  obtain ⟨i, _, hx⟩ := (znw c _).1 hx
  obtain ⟨j, _, rfl⟩ := rep_mem.1 hx
  exact .inr (.inr (.inr rfl))))]
 congr 2
 unfold FH
 exact List.map_congr_left fun q hq => if_pos (List.mem_range.1 hq)
section
variable {c : Config} (g : zan c) (hk : 0 <= c.kernel /\ c.kernel < 1024)
include g hk
structure zyU (c : Config) (L : Layout) : Prop where
 parts : L.partitions = plT c (nP c)
 bar : L.barrier = ((16 * K0 c : Nat) : Int)
 len : L.channels.length = nC c
 lock : ∀ k, k < nC c -> (ze L.channels k).lock = ((cAt c k : Nat) : Int)
 stage : ∀ k, k < nC c -> (ze L.channels k).stage = ((cAt c k + 2 : Nat) : Int)
 dests : ∀ k, k < nC c -> (ze L.channels k).dests = zao (prt (Ch c k)) (dAt c k) (dl c k)
theorem zzT : ∀ m k, k + m = nC c -> ∀ xs : List ChannelPlace, xs.length = nC c -> (∀ p ∈ xs, p.dests.length <= 0) -> ∃ L : Layout, zbL c (.l0 (k : Int) xs) = some (L, 0) /\ zyU c L := by
 have hC := g.chans
 have hP := g.few.parts
 intro m
 induction m with
 | zero =>
  intro k hk' xs hx hd
  obtain ⟨p1, p2⟩ := zw (zcg g hk)
  have p2' : zno c = true := p2
  have hf : decide ((k : Int) < (c.channels.length : Int)) = false := zR (by unfold nC at hk'; omega)
  rw [zaT]
  simp only [zbC, hf, p2', cnF, cnT, zW]
  obtain ⟨l, x, hl, _⟩ := zh9 g hk
  obtain ⟨L, h1, h2, h3, h4⟩ := zBK g hk ((z4 c).length - 1) 0 (by rw [hl, List.length_append, List.length_singleton]; omega) 0 (i64.wrap (16 * c.kernel)) 0 (List.replicate (nP c) zix) xs ⟨⟨Int.le_refl _, fun h => by omega⟩, by rw [List.length_replicate], hx, fun p hp => by rw [(List.mem_replicate.1 hp).2]; exact Nat.le_refl _, hd⟩
  have hxe := zQo hx
  obtain ⟨cur', e⟩ := zzK c 0 (ze xs) 0
  rw [List.drop_zero] at h2 h3 h4
  rw [hxe, e] at h3 h4
  have hh : L.channels = FH c fun q => chW c q (ze xs q) := h4
  refine ⟨L, h1, ⟨h2.trans (ztk c), h3, by rw [hh]; simp [FH], fun k hk => by rw [hh, znS hk]; rfl, fun k hk => by rw [hh, znS hk]; rfl, fun k hk => ?_⟩⟩
  rw [hh, znS hk]
  have h0 := hd _ (zbJ (xs := xs) (i := k) (by omega))
  show (ze xs k).dests ++ _ = _
  rw [List.eq_nil_of_length_eq_zero (Nat.le_zero.1 h0)]; rfl
 | succ m ih =>
  intro k hk' xs hx hd
  have hkk : k < c.channels.length := by unfold nC at hk'; omega
  obtain ⟨r, hr⟩ := zmx g (k : Int)
  obtain ⟨p1, p2⟩ := zw hr
  have p2' : zpH c (k : Int) = true := p2
  have hkx : k < xs.length := by omega
  have hl2 : ∀ y, k < (List.set xs k y).length := fun y => by rw [List.length_set]; exact hkx
  rw [zaT]
  simp only [zbC, zW, zQ hkk, p2', zm hkx, zm (hl2 _), cnT, zi k (show k < 4611686018427387904 by omega)]
  refine ih (k + 1) (by omega) _ (by rw [List.length_set, List.length_set]; exact hx) fun p hp => ?_
  have h0 := hd _ (zbJ hkx)
  rcases List.mem_or_eq_of_mem_set hp with hp | rfl
  . rcases List.mem_or_eq_of_mem_set hp with hp | rfl
    . exact hd p hp
    . exact h0
  . have e : ze (List.set xs k ⟨(ze xs k).lock, (ze xs k).stage, (zmD c (k : Int)).1, (ze xs k).port, (ze xs k).dests⟩) k = ⟨(ze xs k).lock, (ze xs k).stage, (zmD c (k : Int)).1, (ze xs k).port, (ze xs k).dests⟩ := by
     simp [ze, List.getD, List.getElem?_set, hkx]
    show (ze (List.set xs k _) k).dests.length <= 0
    rw [e]; exact h0
theorem zTi : ∃ L : Layout, zkC c = some (L, 0) /\ zyU c L := by
 obtain ⟨k1, k2⟩ := zw (zBA g hk)
 have k1' : zvo c = true := k1
 have k2' : znn c = true := k2
 have hC := g.chans
 have hP := g.few.parts
 unfold zkC zkf
 rw [k1', k2', cnT, Bool.not_true, cnF, zfT _ _ (by unfold B47; omega), zfT _ _ (by unfold B47; omega), cnT, cnT, zW]
 exact zzT g hk (nC c) 0 (Nat.zero_add _) _ (by rw [List.length_replicate]; rfl) fun p hp => by rw [(List.mem_replicate.1 hp).2]; exact Nat.le_refl _
end
structure zhz (x : Partition) (fr : Nat) : Prop where
 fine : zca x
 right : ∀ i, i < x.regions.length -> 0 <= (zh x.regions i).rights /\ (zh x.regions i).rights <= 7
 fit : ∀ i, i < x.regions.length -> (zh x.regions i).frame + (zh x.regions i).pages <= (fr : Int)
 apart : ∀ i k pg, i < k -> k < x.regions.length -> zaq x pg k = true -> zaq x pg i = false
theorem zCd {c : Config} (g : zan c) {p : Nat} (hp : p < nP c) : zhz (P c p) c.frames.toNat := by
 have hf := g.frames
 have hx := zoU g hp
 refine ⟨hx, fun i hi => ?_, fun i hi => ?_, fun i k pg hik hk hq => ?_⟩
 . have h := g.regb p i hp hi
   simp only [zf1, ze8, Bool.and_eq_true, decide_eq_true_eq] at h
   have h1 := h.1.1.2
   unfold Rg at h1
   omega
 . have h := (g.regs p i hp hi).fits
   unfold Rg at h
   omega
 . have h := g.regb p k hp hk
   simp only [zf1, Bool.and_eq_true, Bool.not_eq_true'] at h
   have h2 := any_f.1 h.1.2 i hik
   cases hc : zaq (P c p) pg i with
   | false => rfl
   | true =>
    exfalso
    simp only [zaq, Bool.and_eq_true, decide_eq_true_eq] at hq hc
    obtain ⟨a1, a2, a3, a4⟩ := hx.page k hk
    obtain ⟨b1, b2, b3, b4⟩ := hx.page i (by omega)
    have := zMF (a := (Rg c p k).page) (m := (Rg c p k).pages) (b := (Rg c p i).page) (o := (Rg c p i).pages) (x := (pg : Int)) (by unfold Rg; omega) (by unfold Rg; omega) (by unfold Rg; omega) (by unfold Rg; omega)
    unfold zoQ at h2
    rw [this] at h2
    cases h2
noncomputable def ofV (x : Partition) (k pg : Nat) : Int := match (List.range k).find? (zaq x pg) with
 | some i => (i : Int) + 1
 | none => 0
theorem zjl {q : Nat -> Bool} {n : Nat} (h : ∀ i, i < n -> q i = false) : (List.range n).find? q = none := by
 rw [List.find?_eq_none]
 intro i hi
 rw [h i (List.mem_range.1 hi)]; simp
theorem zBH {x : Partition} {fr : Nat} (hx : zhz x fr) {k : Nat} (hk : k < x.regions.length) (pg : Nat) : ofV x (k + 1) pg = if zaq x pg k = true then (k : Int) + 1 else ofV x k pg := by
 unfold ofV
 rw [List.range_succ, List.find?_append]
 by_cases h : zaq x pg k = true
 . rw [zjl fun i hi => hx.apart i k pg hi hk h, if_pos h]
   simp [h]
 . rw [if_neg h]
   cases (List.range k).find? (zaq x pg) with
   | none => simp [h]
   | some i => rfl
theorem zNg (x : Partition) (k pg : Nat) : 0 <= ofV x k pg /\ ofV x k pg <= k := by
 unfold ofV
 cases h : (List.range k).find? (zaq x pg) with
 | none => exact ⟨Int.le_refl _, by simp⟩
 | some i =>
  have := List.mem_range.1 (List.mem_of_find?_eq_some h)
  show 0 <= (i : Int) + 1 /\ (i : Int) + 1 <= k
  omega
theorem zwo {x : Partition} {pg : Nat} : decide (ofV x x.regions.length pg - 1 >= 0) = zbK x pg := by
 unfold ofV zbK
 cases h : (List.range x.regions.length).find? (zaq x pg) with
 | none =>
  have : (List.range x.regions.length).any (zaq x pg) = false := any_f.2 fun i hi => by
   have := List.find?_eq_none.1 h i (List.mem_range.2 hi)
   simpa using this
  rw [this]; rfl
 | some i =>
  have : (List.range x.regions.length).any (zaq x pg) = true := any_t.2 ⟨i, List.mem_range.1 (List.mem_of_find?_eq_some h), List.find?_some h⟩
  rw [this]
  exact decide_eq_true (show (i : Int) + 1 - 1 >= 0 by omega)
theorem zhc (g : Nat -> Int) : nrm (.i .i64) 256 (mk 256 g) = mk 256 g := by
 show mk 256 (zx (mk 256 g)) = mk 256 g
 exact zaC fun i hi => zap hi g
theorem zOm {x : Partition} (hx : zca x) {i : Nat} (hi : i < x.regions.length) (hr : 0 <= (zh x.regions i).rights /\ (zh x.regions i).rights <= 7) : zpa (zh x.regions i) = true := by
 obtain ⟨a1, a2, a3, a4⟩ := hx.page i hi
 obtain ⟨b1, b2⟩ := hx.frame i hi
 unfold zpa zjV zi9
 generalize zh x.regions i = r at *
 rw [z9 (256 - r.page) (by omega) (by omega), z9 (1024 - r.frame) (by omega) (by omega), decide_eq_true (show r.page >= 0 by omega), decide_eq_true (show r.pages >= 1 by omega), decide_eq_true (show r.page < 256 by omega), decide_eq_true (show r.pages <= 256 - r.page by omega), decide_eq_true (show r.frame >= 0 by omega), decide_eq_true (show r.frame < 1024 by omega), decide_eq_true (show r.pages <= 1024 - r.frame by omega), decide_eq_true (show r.rights >= 0 by omega), decide_eq_true (show r.rights <= 7 by omega)]
 rfl
section
variable {x : Partition} {fr : Nat} (hx : zhz x fr)
include hx
theorem zzJ {k : Nat} (hk : k < x.regions.length) {a b : Nat} (ha : (zh x.regions k).page = (a : Int)) (hb : (zh x.regions k).pages = (b : Int)) (u v : Int) : ∀ r p, p + r = a + b -> a <= p -> zd6 x.regions (.l4 (k : Int) (p : Int) (k : Int) (mk 256 fun pg => if a <= pg /\ pg < p then (k : Int) + 1 else ofV x k pg) (a : Int) (b : Int) u v) = zd6 x.regions (.l0 ((k + 1 : Nat) : Int) (mk 256 fun pg => ofV x (k + 1) pg)) := by
 obtain ⟨a1, a2, a3, a4⟩ := hx.fine.page k hk
 have h8 := hx.fine.few
 have ew : i64.wrap ((a : Int) + (b : Int)) = ((a + b : Nat) : Int) := zo _ _ (by omega) (by omega)
 have ek : i64.wrap ((k : Int) + 1) = ((k + 1 : Nat) : Int) := zi k (by omega)
 have hq : ∀ pg : Nat, zaq x pg k = (decide (a <= pg) && decide (pg < a + b)) := fun pg => by
  unfold zaq
  rw [ha, hb]
  congr 1
  . exact decide_eq_decide.2 (by omega)
  . exact decide_eq_decide.2 (by omega)
 intro r
 induction r with
 | zero =>
  intro p hp hap
  rw [Nat.add_zero] at hp
  subst hp
  rw [zgA]
  simp only [zdl, ew, zR (Nat.le_refl _), cnF, ek]
  congr 2
  refine zaC fun pg hpg => ?_
  rw [zBH hx hk, hq pg]
  by_cases h : a <= pg /\ pg < a + b
  . rw [if_pos h, if_pos (by simp [h.1, h.2])]
  . rw [if_neg h, if_neg (by simpa using fun h1 => by omega)]
 | succ r ih =>
  intro p hp hap
  have hp256 : p < 256 := by omega
  have h0 : ofV x k p = 0 := by
   unfold ofV
   rw [zjl fun i hi => hx.apart i k p hi hk (by rw [hq]; simp; omega)]
  rw [zgA]
  simp only [zdl, ew, zQ (show p < a + b by omega), cnT, zhc, zW, zap hp256, zm hp256, if_neg (show ¬ (a <= p /\ p < p) by omega), h0, zi p (show p < 4611686018427387904 by omega), zdw hp256, ek]
  have := ih (p + 1) (by omega) (by omega)
  refine Eq.trans ?_ this
  show cond (!((0 : Int) == 0)) none _ = _
  show zd6 _ _ = zd6 _ _
  congr 2
  refine zaC fun pg hpg => ?_
  by_cases h1 : pg = p
  . rw [if_pos h1, if_pos (show a <= pg /\ pg < p + 1 by omega)]; omega
  . rw [if_neg h1]
    by_cases h2 : a <= pg /\ pg < p
    . rw [if_pos h2, if_pos (show a <= pg /\ pg < p + 1 by omega)]
    . rw [if_neg h2, if_neg (show ¬ (a <= pg /\ pg < p + 1) by omega)]
theorem zti : zqG x.regions = some (mk 256 (ofV x x.regions.length), true) := by
 have h8 := hx.fine.few
 have hl := zz (n := x.regions.length) (f := fun (k : Nat) (xs : List Int) => zd6 x.regions (.l0 (k : Int) xs)) (S := fun k => mk 256 (ofV x k)) (fun k hk => by
  obtain ⟨a1, a2, a3, a4⟩ := hx.fine.page k hk
  obtain ⟨a, ha⟩ : ∃ a : Nat, (zh x.regions k).page = (a : Int) := ⟨_, (Int.toNat_of_nonneg a1).symm⟩
  obtain ⟨b, hb⟩ : ∃ b : Nat, (zh x.regions k).pages = (b : Int) := ⟨_, (Int.toNat_of_nonneg (by omega)).symm⟩
  show zd6 _ _ = _
  rw [zgA]
  simp only [zdl, zQ hk, cnT, zm hk, zW, zOm hx.fine hk (hx.right k hk), Bool.not_true, cnF, ha, hb]
  have := zzJ hx hk ha hb (zh x.regions k).frame (zh x.regions k).rights b a (by omega) (Nat.le_refl _)
  refine Eq.trans ?_ this
  congr 2
  exact zaC fun pg hpg => (if_neg (by omega)).symm)
 unfold zqG ziT
 rw [ze3]
 refine hl.trans ?_
 show zd6 _ _ = _
 rw [zgA]
 simp only [zdl, zR (Nat.le_refl _), cnF, id]
theorem zBf {pg : Nat} (hpg : pg < 256) : zmA (pg : Int) (mk 256 (ofV x x.regions.length)) = (ofV x x.regions.length pg - 1, mk 256 (ofV x x.regions.length)) /\ zne (pg : Int) (mk 256 (ofV x x.regions.length)) = true := by
 have h8 := hx.fine.few
 obtain ⟨b1, b2⟩ := zNg x x.regions.length pg
 refine zw (?_ : zqZ (pg : Int) (mk 256 (ofV x x.regions.length)) = _)
 unfold zqZ zlP
 rw [show zN (pg : Int) 256 = true from zm hpg, cnT, zhc, zW, zap hpg, z9 _ (by omega) (by omega)]
 rfl
end
def zcX (q : Nat -> Bool) (k : Nat) : List Nat := (List.range k).filter q
theorem zjq (q : Nat -> Bool) (k : Nat) : zcX q (k + 1) = zcX q k ++ (if q k = true then [k] else []) := by
 unfold zcX
 rw [List.range_succ, List.filter_append]
 congr 1
 by_cases h : q k = true <;> simp [h]
theorem zcM (q : Nat -> Bool) : ∀ k, (zcX q k).length = cnt q k
 | 0 => rfl
 | k + 1 => by
  rw [zjq, List.length_append, zcM q k, zbc]
  cases h : q k <;> simp
def tn (q : Nat -> Bool) (n : Nat) : Nat := (zcX q 16).getD n 0
theorem zto (q : Nat -> Bool) : ∀ k n, n < cnt q k -> q ((zcX q k).getD n 0) = true /\ (zcX q k).getD n 0 < k /\ cnt q ((zcX q k).getD n 0) = n
 | 0, n, h => by simp [cnt, tot] at h
 | k + 1, n, h => by
  rw [zjq]
  by_cases hn : n < cnt q k
  . obtain ⟨h1, h2, h3⟩ := zto q k n hn
    have e : (zcX q k ++ (if q k = true then [k] else [])).getD n 0 = (zcX q k).getD n 0 := by
     simp [List.getD, List.getElem?_append_left (show n < (zcX q k).length by rw [zcM]; exact hn)]
    rw [e]
    exact ⟨h1, by omega, h3⟩
  . rw [zbc] at h
    cases hq : q k with
    | false => rw [hq] at h; exact absurd h (by simpa using hn)
    | true =>
     rw [hq] at h
     have hnk : n = cnt q k := by simp at h; omega
     have e : (zcX q k ++ (if true = true then [k] else [])).getD n 0 = k := by
      rw [if_pos rfl, List.getD, List.getElem?_append_right (by rw [zcM]; omega), zcM, hnk]
      simp
     rw [e]
     exact ⟨hq, by omega, hnk.symm⟩
theorem zyh {q : Nat -> Bool} {n : Nat} (h : n < cnt q 16) : q (tn q n) = true /\ tn q n < 16 /\ cnt q (tn q n) = n := zto q 16 n h
theorem zv5 {q : Nat -> Bool} {s t : Nat} (hs : q s = true) (ht : q t = true) (h : cnt q s = cnt q t) : s = t := by
 rcases Nat.lt_trichotomy s t with h1 | h1 | h1
 . have := zgY h1 hs; omega
 . exact h1
 . have := zgY h1 ht; omega
theorem zOS {q : Nat -> Bool} {t : Nat} (ht : t < 16) (h : q t = true) : tn q (cnt q t) = t := by
 obtain ⟨h1, h2, h3⟩ := zyh (zgY ht h)
 exact zv5 h1 h h3
noncomputable def zjg (a b : Int) : Int := bop .or .u32 (bop .or .u32 2147483648 (bop .shl .u32 (u32.wrap a) 3)) (u32.wrap b)
theorem zso {a b : Int} (ha : 0 <= a /\ a < 1024) (hb : 0 <= b /\ b <= 7) : zks a b = (zjg a b, 0) := by
 unfold zks zjQ ziW
 rw [decide_eq_false (show ¬ a < 0 by omega), decide_eq_false (show ¬ a >= 1024 by omega), decide_eq_false (show ¬ b < 0 by omega), decide_eq_false (show ¬ b > 7 by omega)]; rfl
theorem zBa (a b : Int) : ztX a b = zjg a b := rfl
noncomputable def pgV (x : Partition) (pg : Nat) : Int := match (List.range x.regions.length).find? (zaq x pg) with
 | some i => zjg ((zh x.regions i).frame + pg - (zh x.regions i).page) (zh x.regions i).rights
 | none => 0
theorem zBY {x : Partition} {pg : Nat} (h : zbK x pg = false) : pgV x pg = 0 := by
 unfold pgV
 rw [zjl (any_f.1 h)]
noncomputable def WT (x : Partition) (f a : Nat) : Int :=
 if a / 16 = f then (if zq x (a % 16) = true then zjg ((f + 1 + cnt (zq x) (a % 16) : Nat) : Int) 0 else 0)
 else if f + 1 <= a / 16 /\ a / 16 < f + 1 + z5 x then pgV x (16 * tn (zq x) (a / 16 - (f + 1)) + a % 16) else 0
section
variable {x : Partition} {fr : Nat} (hx : zhz x fr)
include hx
noncomputable abbrev ofL (x : Partition) : List Int := mk 256 (ofV x x.regions.length)
theorem zzR {t : Nat} (ht : t < 16) (out : List Int) : ∀ r i, i + r = 16 -> zcZ (ofL x) (.l4 (t : Int) ((List.range i).any fun k => zbK x (16 * t + k)) (t : Int) (i : Int) (ofL x) out) = zcZ (ofL x) (.l4 (t : Int) (zq x t) (t : Int) ((16 : Nat) : Int) (ofL x) out) := by
 have w1 : i64.wrap ((t : Int) * 16) = ((16 * t : Nat) : Int) := zo _ _ (by omega) (by omega)
 intro r
 induction r with
 | zero =>
  intro i hi
  rw [Nat.add_zero] at hi
  subst hi
  rw [zff hx.fine ht]
 | succ r ih =>
  intro i hi
  have w2 : i64.wrap (((16 * t : Nat) : Int) + (i : Int)) = ((16 * t + i : Nat) : Int) := zo _ _ (by omega) (by omega)
  obtain ⟨f1, f2⟩ := zBf hx (pg := 16 * t + i) (by omega)
  have hlt : decide ((i : Int) < 16) = true := decide_eq_true (by omega)
  rw [zes]
  simp only [zcU, hlt, cnT, w1, w2, zhc, f1, f2, zwo, zi i (show i < 4611686018427387904 by omega)]
  rw [← ih (i + 1) (by omega), zfv]
  cases (List.range i).any fun k => zbK x (16 * t + k) <;> rfl
theorem ztz : zqH (ofL x) = some ((zcX (zq x) 16).map (fun n : Nat => (n : Int)), ofL x) := by
 have e27 : ∀ (t : Nat) (xs out : List Int), t <= 100 -> zcZ (ofL x) (.l27 (t : Int) xs out) = zcZ (ofL x) (.l0 ((t + 1 : Nat) : Int) xs out) := fun t xs out h => by
  rw [zes]
  simp only [zcU, zi t (show t < 4611686018427387904 by omega)]
 have hl := zz (n := 16) (f := fun (t : Nat) (out : List Int) => zcZ (ofL x) (.l0 (t : Int) (ofL x) out)) (S := fun t => (zcX (zq x) t).map (fun n : Nat => (n : Int))) (fun t ht => by
  show zcZ _ _ = zcZ _ _
  have hlen : ((zcX (zq x) t).map (fun n : Nat => (n : Int))).length <= 16 := by rw [List.length_map, zcM]; have := zaF (zq x) t; omega
  rw [zes]
  simp only [zcU, show decide ((t : Int) < 16) = true from decide_eq_true (by omega), cnT]
  have e1 : zcZ (ofL x) (.l4 (t : Int) false (t : Int) 0 (ofL x) ((zcX (zq x) t).map (fun n : Nat => (n : Int)))) = _ := zzR hx ht _ 16 0 (by omega)
  rw [e1, zes]
  simp only [zcU, show decide (((16 : Nat) : Int) < 16) = false from rfl, cnF, List.length_singleton, zaO (show (((zcX (zq x) t).map (fun n : Nat => (n : Int))).length + 1) * 8 <= 140737488355328 by omega), cnT]
  rw [e27 t _ _ (by omega), e27 t _ _ (by omega), zjq]
  cases h : zq x t with
  | false => simp
  | true => simp)
 unfold zqH ziV
 refine hl.trans ?_
 show zcZ _ _ = _
 rw [zes]
 simp only [zcU, show decide (((16 : Nat) : Int) < 16) = false from rfl, cnF, id]
theorem zHE {t : Nat} (ht : t < 16) : zqJ x.regions (t : Int) (ofL x) = some (mk 16 (fun i => pgV x (16 * t + i)), ofL x) := by
 have w1 : i64.wrap ((t : Int) * 16) = ((16 * t : Nat) : Int) := zo _ _ (by omega) (by omega)
 have e21 : ∀ (i : Nat) (xs out : List Int), i <= 100 -> zfc x.regions (t : Int) (ofL x) (.l21 (i : Int) xs out) = zfc x.regions (t : Int) (ofL x) (.l0 ((i + 1 : Nat) : Int) xs out) := fun i xs out h => by
  rw [zjF]
  simp only [zdZ, zi i (show i < 4611686018427387904 by omega)]
 have hl := zz (n := 16) (f := fun (i : Nat) (out : List Int) => zfc x.regions (t : Int) (ofL x) (.l0 (i : Int) (ofL x) out)) (S := fun k => mk 16 fun i => if i < k then pgV x (16 * t + i) else 0) (fun i hi => by
  show zfc _ _ _ _ = zfc _ _ _ _
  have w2 : i64.wrap (((16 * t : Nat) : Int) + (i : Int)) = ((16 * t + i : Nat) : Int) := zo _ _ (by omega) (by omega)
  obtain ⟨f1, f2⟩ := zBf hx (pg := 16 * t + i) (by omega)
  have hlt : decide ((i : Int) < ((List.replicate 16 (0 : Int)).length : Int)) = true := decide_eq_true (by rw [List.length_replicate]; omega)
  rw [zjF]
  simp only [zdZ, hlt, cnT, w1, w2, zhc, f1, f2, zwo]
  have hnext : (mk 16 fun j => if j = i then pgV x (16 * t + i) else if j < i then pgV x (16 * t + j) else 0) = mk 16 fun j => if j < i + 1 then pgV x (16 * t + j) else 0 := zaC fun j hj => by
   by_cases h1 : j = i
   . rw [if_pos h1, if_pos (by omega), h1]
   . rw [if_neg h1]
     by_cases h2 : j < i
     . rw [if_pos h2, if_pos (by omega)]
     . rw [if_neg h2, if_neg (by omega)]
  cases hb : zbK x (16 * t + i) with
  | false =>
   have hs : (mk 16 fun j => if j < i then pgV x (16 * t + j) else 0) = mk 16 fun j => if j < i + 1 then pgV x (16 * t + j) else 0 := by
    rw [← hnext]
    refine zaC fun j hj => ?_
    by_cases h1 : j = i
    . rw [if_pos h1, if_neg (by omega), zBY hb]
    . rw [if_neg h1]
   rw [cnF, e21 i _ _ (by omega), hs]
  | true =>
   obtain ⟨r, hr, hq⟩ := any_t.1 hb
   have hfind : ∃ k, (List.range x.regions.length).find? (zaq x (16 * t + i)) = some k := by
    cases h : (List.range x.regions.length).find? (zaq x (16 * t + i)) with
    | some k => exact ⟨k, rfl⟩
    | none =>
     have := List.find?_eq_none.1 h r (List.mem_range.2 hr)
     rw [hq] at this; exact absurd rfl this
   obtain ⟨k, hk⟩ := hfind
   have hkl := List.mem_range.1 (List.mem_of_find?_eq_some hk)
   have hkq := List.find?_some hk
   have hof : ofV x x.regions.length (16 * t + i) = (k : Int) + 1 := by unfold ofV; rw [hk]
   have hpg : pgV x (16 * t + i) = zjg ((zh x.regions k).frame + ((16 * t + i : Nat) : Int) - (zh x.regions k).page) (zh x.regions k).rights := by unfold pgV; rw [hk]
   obtain ⟨a1, a2, a3, a4⟩ := hx.fine.page k hkl
   obtain ⟨b1, b2⟩ := hx.fine.frame k hkl
   have hri := hx.right k hkl
   simp only [zaq, Bool.and_eq_true, decide_eq_true_eq] at hkq
   have w3 : i64.wrap ((zh x.regions k).frame + ((16 * t + i : Nat) : Int)) = (zh x.regions k).frame + ((16 * t + i : Nat) : Int) := z9 _ (by omega) (by omega)
   have w4 : i64.wrap ((zh x.regions k).frame + ((16 * t + i : Nat) : Int) - (zh x.regions k).page) = (zh x.regions k).frame + ((16 * t + i : Nat) : Int) - (zh x.regions k).page := z9 _ (by omega) (by omega)
   have hk1 : (k : Int) + 1 - 1 = (k : Int) := by omega
   simp only [hof, hk1, cnT, zm hkl, zW, zM, zm hi, w3, w4, zdw hi, zso (show 0 <= (zh x.regions k).frame + ((16 * t + i : Nat) : Int) - (zh x.regions k).page /\ (zh x.regions k).frame + ((16 * t + i : Nat) : Int) - (zh x.regions k).page < 1024 by omega) hri, e21 i _ _ (show i <= 100 by omega), ← hpg, hnext])
 unfold zqJ ziY
 rw [show (decide ((16 : Int) = 16) && decide (0 <= 16) && leB (16 * 4) 140737488355328) = true from rfl, cnT, ze3]
 have h0 : (mk 16 fun i => if i < 0 then pgV x (16 * t + i) else 0) = mk 16 fun _ => 0 := zaC fun i _ => if_neg (by omega)
 rw [← h0]
 refine hl.trans ?_
 show zfc _ _ _ _ = _
 rw [zjF]
 simp only [zdZ, show decide (((16 : Nat) : Int) < ((List.replicate 16 (0 : Int)).length : Int)) = false from rfl, cnF, id]
 have hs : (mk 16 fun i => if i < 16 then pgV x (16 * t + i) else 0) = mk 16 fun i => pgV x (16 * t + i) := zaC fun i hi => if_pos hi
 rw [hs]
end
theorem zBr {N a : Nat} (hN : N <= 100000) (ha : a + 16 <= N) (f g : Nat -> Int) : zqI (a : Int) (mk 16 g) (mk N f) = some (0, ⟨mk N fun i => if a <= i /\ i < a + 16 then g (i - a) else f i⟩) := by
 obtain ⟨k1, k2⟩ := zw (zyf (f := f) hN ha)
 have k1' : zfp (some ⟨mk N f⟩) (a : Int) ((16 : Nat) : Int) = 0 := k1
 have k2' : zgf (some ⟨mk N f⟩) (a : Int) ((16 : Nat) : Int) = true := k2
 unfold zqI ziX
 rw [zM, zM, k1', k2', cnT, show ((0 : Int) == 0) = true from rfl, cnT, inS_iff.2 ⟨by omega, by omega, by omega⟩, cnT, zW, zW, zAb]
 have e : List.take (N - a) (mk 16 g) = mk 16 g := List.take_of_length_le (by rw [zM]; omega)
 simp only [zfw, zM, k1', id, e, zHq ha]
theorem ztm {N : Nat} (hN : N <= 100000) (f : Nat -> Int) : zpy (some ⟨mk N f⟩) = some ((N / 16 : Nat) : Int) := by
 unfold zpy zoq
 show some (id (bop .quo .i64 (((mk N f).length : Nat) : Int) 16)) = _
 rw [zM, zch _ (by omega)]; rfl
theorem zJK {N : Nat} (hN : N <= 100000) (f : Nat -> Int) {a : Int} (ha : 0 <= a) (hb : a < ((N / 16 : Nat) : Int)) : zdA (some ⟨mk N f⟩) a = true /\ zge (some ⟨mk N f⟩) a = true := by
 obtain ⟨k1, k2⟩ := zw (ztm hN f)
 have k1' : zvp (some ⟨mk N f⟩) = ((N / 16 : Nat) : Int) := k1
 have k2' : zgg (some ⟨mk N f⟩) = true := k2
 refine zw (?_ : zmV (some ⟨mk N f⟩) a = some true)
 unfold zmV ziU
 rw [decide_eq_true (show a >= 0 by omega), k1', k2', decide_eq_true hb]; rfl
theorem zoT {m : Option MemMemory} : ∀ {l met : List Int}, (∀ t ∈ l, zdA m t = true /\ t ∉ met) -> l.Nodup -> zqg m met l = true
 | [], _, _, _ => rfl
 | t :: r, met, h, hn => by
  have hn' := List.nodup_cons.1 hn
  have h1 := h t (List.mem_cons_self)
  have h2 : (met.any fun x => decide (x = t)) = false := by
   rw [List.any_eq_false]
   intro y hy
   simp only [decide_eq_true_eq]
   exact fun e => h1.2 (e ▸ hy)
  have h3 := h1.1
  simp only [zqg, h2, Bool.not_false, Bool.true_and]
  rw [show zdA m t = true from h3, Bool.true_and]
  exact zoT (fun y hy => ⟨(h y (List.mem_cons_of_mem _ hy)).1, fun hm => by
   rcases List.mem_cons.1 hm with e | e
   . exact hn'.1 (e ▸ hy)
   . exact (h y (List.mem_cons_of_mem _ hy)).2 e⟩) hn'.2
theorem zBm {a : Int} (h : -4611686018427387904 <= a /\ a <= 4611686018427387904) : zoL a = true := by
 unfold zoL Lit.wf
 simp [IntKind.min, IntKind.max, IntKind.bits, IntKind.signed]
 omega
theorem zpQ {f n : Nat} {t : Int} (h : t ∈ tabs f n) : ∃ j, j < n /\ t = ((f + 1 + j : Nat) : Int) := by
 obtain ⟨j, hj, e⟩ := List.mem_map.1 h
 exact ⟨j, List.mem_range.1 hj, e.symm⟩
theorem zdI (f n : Nat) : (tabs f n).length = n := by simp [tabs]
theorem zB0 {N f n : Nat} (hN : N <= 16384) (hr : 16 * (f + n + 1) <= N) (h : Nat -> Int) : zfo (some ⟨mk N h⟩) (f : Int) (tabs f n) = true /\ zjY (some ⟨mk N h⟩) (f : Int) (tabs f n) = true := by
 have hh : ∀ a : Nat, a <= f + n -> zdA (some ⟨mk N h⟩) (a : Int) = true := fun a ha => (zJK (by omega) h (by omega) (by omega)).1
 constructor
 . have e := zoT (m := some ⟨mk N h⟩) (l := tabs f n) (met := [(f : Int)]) (fun t ht => by
    obtain ⟨j, hj, rfl⟩ := zpQ ht
    refine ⟨hh _ (by omega), fun hm => ?_⟩
    rw [List.mem_singleton] at hm
    omega) (by
    unfold tabs
    refine List.Pairwise.map _ (fun a b hab => ?_) List.nodup_range
    intro e
    exact hab (by omega))
   unfold zfo
   rw [e, show zdA (some ⟨mk N h⟩) (f : Int) = true from hh f (by omega)]; rfl
 . have k2' : zgg (some ⟨mk N h⟩) = true := (zw (ztm (by omega) h)).2
   unfold zjY
   rw [show zgg (some ⟨mk N h⟩) = true from k2', zBm (by omega), zdI, show Nat.ble n 100000 = true from Nat.ble_eq_true_of_le (by omega), List.all_eq_true.2 fun t ht => by
    obtain ⟨j, hj, rfl⟩ := zpQ ht
    exact zBm (by omega)]
   rfl
section
variable {x : Partition} {fr : Nat} (hx : zhz x fr) {N f : Nat} (hN : N <= 16384) (hr : 16 * (f + z5 x + 1) <= N) (hfr : 16 * fr = N)
include hx hN hr hfr
noncomputable def BW (x : Partition) (f n a : Nat) : Int := if f + 1 <= a / 16 /\ a / 16 < f + 1 + n then pgV x (16 * tn (zq x) (a / 16 - (f + 1)) + a % 16) else 0
noncomputable def znR (x : Partition) (f n t : Nat) : Int := if zq x t = true /\ cnt (zq x) t < n then zjg ((f + 1 + cnt (zq x) t : Nat) : Int) 0 else 0
theorem zuJ : ∀ r n, n + r = z5 x -> zgU (f : Int) (tabs f (z5 x)) x.regions (mk N fun _ => 0) (.l4 (n : Int) (mk N (BW x f n)) (ofL x) (mk 16 (znR x f n))) = some (0, ⟨mk N (WT x f)⟩) := by
 have hnt : z5 x <= 16 := zaF _ _
 obtain ⟨f1, f2⟩ := zw (zti hx)
 have f1' : zf6 x.regions = (ofL x, true) := f1
 obtain ⟨n1, n2⟩ := zw (ztz hx)
 have n1' : zgS (ofL x) = ((zcX (zq x) 16).map (fun n : Nat => (n : Int)), ofL x) := n1
 have hl : ((zcX (zq x) 16).map (fun n : Nat => (n : Int))).length = z5 x := by rw [List.length_map, zcM]; rfl
 intro r
 induction r with
 | zero =>
  intro n hn
  rw [Nat.add_zero] at hn
  subst hn
  have w1 : i64.wrap ((f : Int) * 16) = ((16 * f : Nat) : Int) := zo _ _ (by omega) (by omega)
  obtain ⟨l1, l2⟩ := zw (zBr (N := N) (a := 16 * f) (by omega) (by omega) (BW x f (z5 x)) (znR x f (z5 x)))
  have l1' : zkt ((16 * f : Nat) : Int) (mk 16 (znR x f (z5 x))) (mk N (BW x f (z5 x))) = _ := l1
  have l2' : zjZ ((16 * f : Nat) : Int) (mk 16 (znR x f (z5 x))) (mk N (BW x f (z5 x))) = true := l2
  rw [zis]
  simp only [zfF, f1', zhc, n1', hl, zR (Nat.le_refl _), cnF, w1, l1', l2', cnT, id]
  have e : (mk N fun i => if 16 * f <= i /\ i < 16 * f + 16 then znR x f (z5 x) (i - 16 * f) else BW x f (z5 x) i) = mk N (WT x f) := zaC fun a ha => by
   unfold WT
   by_cases h : a / 16 = f
   . rw [if_pos (by omega), if_pos h]
     have em : a - 16 * f = a % 16 := by omega
     unfold znR
     rw [em]
     by_cases ht : zq x (a % 16) = true
     . rw [if_pos ⟨ht, zgY (by omega) ht⟩, if_pos ht]
     . rw [if_neg (fun e => ht e.1), if_neg ht]
   . rw [if_neg (by omega), if_neg h]; rfl
  rw [e]
 | succ r ih =>
  intro n hn
  have hnn : n < z5 x := by omega
  obtain ⟨t1, t2, t3⟩ := zyh (q := zq x) hnn
  have hat : zx ((zcX (zq x) 16).map (fun n : Nat => (n : Int))) n = (tn (zq x) n : Int) := by
   have hlt : n < (zcX (zq x) 16).length := by rw [zcM]; exact hnn
   unfold tn
   simp [zx, List.getD, hlt]
  have htl : (tabs f (z5 x)).length = z5 x := zdI _ _
  have htb : zx (tabs f (z5 x)) n = ((f + 1 + n : Nat) : Int) := zk3 hnn
  have w1 : i64.wrap (((f + 1 + n : Nat) : Int) * 16) = ((16 * (f + 1 + n) : Nat) : Int) := zo _ _ (by omega) (by omega)
  obtain ⟨a1, a2⟩ := zw (zHE hx (t := tn (zq x) n) t2)
  have a1' : ztN x.regions (tn (zq x) n : Int) (ofL x) = _ := a1
  have a2' : zrh x.regions (tn (zq x) n : Int) (ofL x) = true := a2
  obtain ⟨l1, l2⟩ := zw (zBr (N := N) (a := 16 * (f + 1 + n)) (by omega) (by omega) (BW x f n) (fun i => pgV x (16 * tn (zq x) n + i)))
  have l1' : zkt ((16 * (f + 1 + n) : Nat) : Int) (mk 16 fun i => pgV x (16 * tn (zq x) n + i)) (mk N (BW x f n)) = _ := l1
  have l2' : zjZ ((16 * (f + 1 + n) : Nat) : Int) (mk 16 fun i => pgV x (16 * tn (zq x) n + i)) (mk N (BW x f n)) = true := l2
  rw [zis]
  simp only [zfF, f1', zhc, n1', hl, zQ hnn, cnT, zm hnn, zW, htl, hat, zM, zm t2, a1', a2', htb, w1, l1', l2', zso (show 0 <= ((f + 1 + n : Nat) : Int) /\ ((f + 1 + n : Nat) : Int) < 1024 by omega) (show (0 : Int) <= 0 /\ (0 : Int) <= 7 by omega), zdw t2, zi n (show n < 4611686018427387904 by omega)]
  have e1 : (mk N fun i => if 16 * (f + 1 + n) <= i /\ i < 16 * (f + 1 + n) + 16 then pgV x (16 * tn (zq x) n + (i - 16 * (f + 1 + n))) else BW x f n i) = mk N (BW x f (n + 1)) := zaC fun a ha => by
   unfold BW
   by_cases h : a / 16 = f + 1 + n
   . rw [if_pos (by omega), if_pos (show f + 1 <= a / 16 /\ a / 16 < f + 1 + (n + 1) by omega), show a / 16 - (f + 1) = n by omega, show a - 16 * (f + 1 + n) = a % 16 by omega]
   . rw [if_neg (by omega)]
     by_cases h2 : f + 1 <= a / 16 /\ a / 16 < f + 1 + n
     . rw [if_pos h2, if_pos (show f + 1 <= a / 16 /\ a / 16 < f + 1 + (n + 1) by omega)]
     . rw [if_neg h2, if_neg (show ¬ (f + 1 <= a / 16 /\ a / 16 < f + 1 + (n + 1)) by omega)]
  have e2 : (mk 16 fun i => if i = tn (zq x) n then zjg ((f + 1 + n : Nat) : Int) 0 else znR x f n i) = mk 16 (znR x f (n + 1)) := zaC fun t ht => by
   unfold znR
   by_cases h : t = tn (zq x) n
   . subst h
     rw [if_pos rfl, if_pos ⟨t1, by omega⟩, t3]
   . rw [if_neg h]
     by_cases h2 : zq x t = true /\ cnt (zq x) t < n
     . rw [if_pos h2, if_pos ⟨h2.1, by omega⟩]
     . rw [if_neg h2, if_neg]
       rintro ⟨h3, h4⟩
       have : cnt (zq x) t ≠ n := fun e => h (zv5 h3 t1 (by omega))
       exact h2 ⟨h3, by omega⟩
  rw [e1, e2]
  exact ih (n + 1) (by omega)
theorem zEM : zxx (f : Int) (tabs f (z5 x)) x.regions (mk N fun _ => 0) = some (0, ⟨mk N (WT x f)⟩) := by
 have hnt : z5 x <= 16 := zaF _ _
 have h8 := hx.fine.few
 obtain ⟨f1, f2⟩ := zw (zti hx)
 have f1' : zf6 x.regions = (ofL x, true) := f1
 have f2' : zrf x.regions = true := f2
 obtain ⟨n1, n2⟩ := zw (ztz hx)
 have n1' : zgS (ofL x) = ((zcX (zq x) 16).map (fun n : Nat => (n : Int)), ofL x) := n1
 have n2' : zrg (ofL x) = true := n2
 have hl : ((zcX (zq x) 16).map (fun n : Nat => (n : Int))).length = z5 x := by rw [List.length_map, zcM]; rfl
 obtain ⟨p1, p2⟩ := zB0 hN hr (fun _ => 0)
 unfold zxx zoy
 rw [decide_eq_false (show ¬ ((x.regions.length : Int) > 8) by omega), cnF, zdI, decide_eq_false (show ¬ ((z5 x : Int) > 16) by omega), cnF, f1', f2', cnT]
 show zgU (f : Int) (tabs f (z5 x)) x.regions (mk N fun _ => 0) (.l0 0) = _
 have hl0 := zz (n := x.regions.length) (f := fun (i : Nat) (_ : Unit) => zgU (f : Int) (tabs f (z5 x)) x.regions (mk N fun _ => 0) (.l0 (i : Int))) (S := fun _ => ()) (fun i hi => by
  show zgU _ _ _ _ _ = zgU _ _ _ _ _
  obtain ⟨a1, a2, a3, a4⟩ := hx.fine.page i hi
  obtain ⟨b1, b2⟩ := hx.fine.frame i hi
  have hf := hx.fit i hi
  have w1 : i64.wrap ((zh x.regions i).frame + (zh x.regions i).pages) = (zh x.regions i).frame + (zh x.regions i).pages := z9 _ (by omega) (by omega)
  have w2 : i64.wrap ((zh x.regions i).frame + (zh x.regions i).pages - 1) = (zh x.regions i).frame + (zh x.regions i).pages - 1 := z9 _ (by omega) (by omega)
  obtain ⟨h1, h2⟩ := zJK (N := N) (by omega) (fun _ => 0) (a := (zh x.regions i).frame + (zh x.regions i).pages - 1) (by omega) (by omega)
  rw [zis]
  simp only [zfF, zQ hi, cnT, zm hi, zW, w1, w2, h1, h2, Bool.not_true, cnF, zi i (show i < 4611686018427387904 by omega)])
 refine hl0.trans ?_
 show zgU _ _ _ _ _ = _
 rw [zis]
 simp only [zfF, zR (Nat.le_refl _), cnF, f1', zhc, n1', n2', cnT, hl, zdI]
 rw [show ((z5 x : Int) == (z5 x : Int)) = true from beq_iff_eq.2 rfl, p1, p2, ze3]
 show cond (decide True && decide (0 <= 16) && leB (16 * 4) 140737488355328) (zgU _ _ _ _ _) none = _
 have hk := zuJ hx hN hr hfr (z5 x) 0 (by omega)
 have e1 : mk N (BW x f 0) = mk N fun _ => 0 := zaC fun a _ => if_neg (by omega)
 have e2 : mk 16 (znR x f 0) = mk 16 fun _ => 0 := zaC fun a _ => if_neg (by omega)
 rw [e1, e2] at hk
 exact hk
end
noncomputable def RO (x : Partition) (f : Nat) (h : Nat -> Int) (t a : Nat) : Int :=
 if a / 16 = f then (if zq x (a % 16) = true /\ a % 16 < t then zjg ((f + 1 + cnt (zq x) (a % 16) : Nat) : Int) 0 else h a)
 else if f + 1 <= a / 16 /\ a / 16 < f + 1 + cnt (zq x) t then pgV x (16 * tn (zq x) (a / 16 - (f + 1)) + a % 16) else h a
noncomputable def RI (x : Partition) (f : Nat) (h : Nat -> Int) (t i a : Nat) : Int :=
 if a / 16 = f + 1 + cnt (zq x) t /\ a % 16 < i /\ zbK x (16 * t + a % 16) = true then pgV x (16 * t + a % 16) else RO x f h t a
noncomputable def TW (x : Partition) (f : Nat) (h : Nat -> Int) (a : Nat) : Int := if f <= a / 16 /\ a / 16 <= f + z5 x then WT x f a else h a
theorem zOl {x : Partition} (hx : zca x) {pg : Nat} (hpg : pg < 256) (hb : zbK x pg = true) : ztX (bop .quo .i64 (zhe x pg) 16) (zmu x pg) = pgV x pg := by
 unfold zhe zmu pgV
 cases h : (List.range x.regions.length).find? (zaq x pg) with
 | none =>
  obtain ⟨r, hr, hq⟩ := any_t.1 hb
  have := List.find?_eq_none.1 h r (List.mem_range.2 hr)
  rw [hq] at this; exact absurd rfl this
 | some k =>
  have hkl := List.mem_range.1 (List.mem_of_find?_eq_some h)
  have hkq := List.find?_some h
  obtain ⟨a1, a2, a3, a4⟩ := hx.page k hkl
  obtain ⟨b1, b2⟩ := hx.frame k hkl
  simp only [zaq, Bool.and_eq_true, decide_eq_true_eq] at hkq
  show zjg (bop .quo .i64 (((zh x.regions k).frame + (pg : Int) - (zh x.regions k).page) * 16) 16) (zh x.regions k).rights = zjg ((zh x.regions k).frame + (pg : Int) - (zh x.regions k).page) (zh x.regions k).rights
  obtain ⟨z, hz⟩ : ∃ z : Nat, (zh x.regions k).frame + (pg : Int) - (zh x.regions k).page = (z : Int) := ⟨((zh x.regions k).frame + (pg : Int) - (zh x.regions k).page).toNat, by omega⟩
  rw [hz, zOt (n := z * 16) (by omega) (by omega), Nat.mul_div_cancel _ (by decide)]
section
variable {x : Partition} {pl : PartitionPlace} {f N : Nat} (hx : zca x) (hp : zAx x pl f N) (h : Nat -> Int) (m0 : List Int)
include hx hp
theorem zOQ {t : Nat} (ht : t < 16) : ∀ r i, i + r = 16 -> zin x pl m0 (.l4 (cnt (zq x) t : Int) (t : Int) ((List.range i).any fun k => zbK x (16 * t + k)) (i : Int) (mk N (RI x f h t i))) = zin x pl m0 (.l4 (cnt (zq x) t : Int) (t : Int) (zq x t) ((16 : Nat) : Int) (mk N (RI x f h t 16))) := by
 have htl : pl.tables.length = z5 x := by rw [hp.tables]; simp [tabs]
 have hc := zaF (zq x) t
 have hr16 := hp.room
 have hN := hp.least
 intro r
 induction r with
 | zero =>
  intro i hi
  rw [Nat.add_zero] at hi
  subst hi
  rw [zff hx ht]
 | succ r ih =>
  intro i hi
  have hpg : 16 * t + i < 256 := by omega
  have w1 : i64.wrap ((t : Int) * 16) = ((16 * t : Nat) : Int) := zo _ _ (by omega) (by omega)
  have w2 : i64.wrap (((16 * t : Nat) : Int) + (i : Int)) = ((16 * t + i : Nat) : Int) := zo _ _ (by omega) (by omega)
  have w3 : i64.wrap (((16 * t + i : Nat) : Int) * 16) = ((16 * (16 * t + i) : Nat) : Int) := zo _ _ (by omega) (by omega)
  obtain ⟨p1, p2⟩ := zw (zGx hx hpg)
  have p1' : ztW x ((16 * (16 * t + i) : Nat) : Int) = zhe x (16 * t + i) := p1
  have p2' : zpJ x ((16 * (16 * t + i) : Nat) : Int) = true := p2
  obtain ⟨r1, r2⟩ := zw (zCe hx hpg)
  have r1' : zHd x ((16 * t + i : Nat) : Int) = zmu x (16 * t + i) := r1
  have r2' : zx7 x ((16 * t + i : Nat) : Int) = true := r2
  have hn := zzW hx hpg
  have hlt : decide ((i : Int) < 16) = true := decide_eq_true (by omega)
  cases hb : zbK x (16 * t + i) with
  | false =>
   rw [hb] at hn
   rw [zev]
   simp only [zed, hlt, cnT, w1, w2, w3, p1', p2', hn, Bool.not_false, zi i (show i < 4611686018427387904 by omega)]
   have e : ((List.range i).any fun k => zbK x (16 * t + k)) = ((List.range (i + 1)).any fun k => zbK x (16 * t + k)) := by rw [zfv, hb, Bool.or_false]
   have e2 : mk N (RI x f h t i) = mk N (RI x f h t (i + 1)) := zaC fun a _ => by
    unfold RI
    by_cases c : a / 16 = f + 1 + cnt (zq x) t /\ a % 16 < i /\ zbK x (16 * t + a % 16) = true
    . rw [if_pos c, if_pos ⟨c.1, by omega, c.2.2⟩]
    . rw [if_neg c, if_neg]
      rintro ⟨c1, c2, c3⟩
      by_cases e : a % 16 = i
      . rw [e, hb] at c3; cases c3
      . exact c ⟨c1, by omega, c3⟩
   rw [e, e2]
   exact ih (i + 1) (by omega)
  | true =>
   rw [hb] at hn
   have htt : zq x t = true := by rw [zff hx ht, any_t]; exact ⟨i, by omega, hb⟩
   have hlt2 : cnt (zq x) t < z5 x := zgY ht htt
   have ha : zx pl.tables (cnt (zq x) t) = ((f + 1 + cnt (zq x) t : Nat) : Int) := by rw [hp.tables]; exact zk3 hlt2
   have w4 : i64.wrap (((f + 1 + cnt (zq x) t : Nat) : Int) * 16) = ((16 * (f + 1 + cnt (zq x) t) : Nat) : Int) := zo _ _ (by omega) (by omega)
   have w5 : i64.wrap (((16 * (f + 1 + cnt (zq x) t) : Nat) : Int) + (i : Int)) = ((16 * (f + 1 + cnt (zq x) t) + i : Nat) : Int) := zo _ _ (by omega) (by omega)
   have hin : 16 * (f + 1 + cnt (zq x) t) + i < N := by omega
   rw [zev]
   simp only [zed, hlt, cnT, cnF, w1, w2, w3, p1', p2', hn, Bool.not_true, zW, zm (show cnt (zq x) t < pl.tables.length by omega), r1', r2', ha, w4, w5, zM, zm hin, zdw hin, zOl hx hpg hb, zi i (show i < 4611686018427387904 by omega)]
   have e : ((List.range (i + 1)).any fun k => zbK x (16 * t + k)) = true := by rw [zfv, hb, Bool.or_true]
   have e2 : (mk N fun a => if a = 16 * (f + 1 + cnt (zq x) t) + i then pgV x (16 * t + i) else RI x f h t i a) = mk N (RI x f h t (i + 1)) := zaC fun a _ => by
    unfold RI
    by_cases c : a = 16 * (f + 1 + cnt (zq x) t) + i
    . have c1 : a / 16 = f + 1 + cnt (zq x) t := by omega
      have c2 : a % 16 = i := by omega
      rw [if_pos c, if_pos ⟨c1, by omega, by rw [c2]; exact hb⟩, c2]
    . rw [if_neg c]
      by_cases c2 : a / 16 = f + 1 + cnt (zq x) t /\ a % 16 < i /\ zbK x (16 * t + a % 16) = true
      . rw [if_pos c2, if_pos ⟨c2.1, by omega, c2.2.2⟩]
      . rw [if_neg c2, if_neg]
        rintro ⟨d1, d2, d3⟩
        exact c2 ⟨d1, by omega, d3⟩
   have := ih (i + 1) (by omega)
   rw [e] at this
   rw [e2]
   exact this
theorem zHD (hz : ∀ a, f <= a / 16 -> a / 16 <= f + z5 x -> h a = 0) : zxb x pl (mk N h) = some (mk N (TW x f h)) := by
 have hr16 := hp.room
 have hN := hp.least
 have htl : pl.tables.length = z5 x := by rw [hp.tables]; simp [tabs]
 generalize hm0 : mk N h = m00
 have key : ∀ r t, t + r = 16 -> zin x pl m00 (.l0 (cnt (zq x) t : Int) (t : Int) (mk N (RO x f h t))) = some (mk N (RO x f h 16)) := by
  intro r
  induction r with
  | zero =>
   intro t ht
   rw [Nat.add_zero] at ht
   subst ht
   rw [zev]
   simp only [zed, show decide (((16 : Nat) : Int) < 16) = false from rfl, cnF, id]
  | succ r ih =>
   intro t ht
   have ht16 : t < 16 := by omega
   have hc := zaF (zq x) t
   have e9 : ∀ (n : Nat) (m : List Int), zin x pl m00 (.l9 (n : Int) (t : Int) m) = zin x pl m00 (.l0 (n : Int) ((t + 1 : Nat) : Int) m) := fun n m => by
    rw [zev]
    simp only [zed, zi t (show t < 4611686018427387904 by omega)]
   have e0 : mk N (RO x f h t) = mk N (RI x f h t 0) := zaC fun a _ => by unfold RI; rw [if_neg (by omega)]
   rw [zev]
   simp only [zed, show decide ((t : Int) < 16) = true from decide_eq_true (by omega), cnT]
   have e1' : zin x pl m00 (.l4 (cnt (zq x) t : Int) (t : Int) false 0 (mk N (RI x f h t 0))) = _ := zOQ hx hp h m00 ht16 16 0 (by omega)
   rw [e0, e1', zev]
   simp only [zed, show decide (((16 : Nat) : Int) < 16) = false from rfl, cnF]
   cases htt : zq x t with
   | false =>
    have ec : cnt (zq x) (t + 1) = cnt (zq x) t := by rw [zbc, htt]; rfl
    have hnop : ∀ i, i < 16 -> zbK x (16 * t + i) = false := fun i hi => by
     rw [zff hx ht16] at htt
     exact any_f.1 htt i hi
    have e2 : mk N (RI x f h t 16) = mk N (RO x f h (t + 1)) := zaC fun a _ => by
     unfold RI
     rw [if_neg (by rintro ⟨_, c2, c3⟩; rw [hnop _ c2] at c3; cases c3)]
     unfold RO
     rw [ec]
     by_cases c : a / 16 = f
     . rw [if_pos c, if_pos c]
       by_cases d : zq x (a % 16) = true /\ a % 16 < t
       . rw [if_pos d, if_pos ⟨d.1, by omega⟩]
       . rw [if_neg d, if_neg]
         rintro ⟨d1, d2⟩
         by_cases e : a % 16 = t
         . rw [e, htt] at d1; cases d1
         . exact d ⟨d1, by omega⟩
     . rw [if_neg c, if_neg c]
    rw [cnF, e9, e2, ← ec]
    exact ih (t + 1) (by omega)
   | true =>
    have ec : cnt (zq x) (t + 1) = cnt (zq x) t + 1 := by rw [zbc, htt]; rfl
    have hlt2 : cnt (zq x) t < z5 x := zgY ht16 htt
    have ha : zx pl.tables (cnt (zq x) t) = ((f + 1 + cnt (zq x) t : Nat) : Int) := by rw [hp.tables]; exact zk3 hlt2
    have w1 : i64.wrap (pl.root * 16) = ((16 * f : Nat) : Int) := zo _ _ (by rw [hp.root]; omega) (by omega)
    have w2 : i64.wrap (((16 * f : Nat) : Int) + (t : Int)) = ((16 * f + t : Nat) : Int) := zo _ _ (by omega) (by omega)
    have hin : 16 * f + t < N := by omega
    rw [cnT, zW, zm (show cnt (zq x) t < pl.tables.length by omega), cnT, w1, w2, zM, zm hin, cnT, zW, zi _ (show cnt (zq x) t < 4611686018427387904 by omega), e9, ha, zdw hin, ← ec]
    have e2 : (mk N fun a => if a = 16 * f + t then ztX ((f + 1 + cnt (zq x) t : Nat) : Int) 0 else RI x f h t 16 a) = mk N (RO x f h (t + 1)) := zaC fun a _ => by
     rw [zBa]
     by_cases c : a = 16 * f + t
     . have c1 : a / 16 = f := by omega
       have c2 : a % 16 = t := by omega
       unfold RO
       rw [if_pos c, if_pos c1, c2, if_pos ⟨htt, by omega⟩]
     . rw [if_neg c]
       unfold RI
       by_cases d : a / 16 = f + 1 + cnt (zq x) t
       . have e1 : RO x f h (t + 1) a = pgV x (16 * t + a % 16) := by
          unfold RO
          rw [if_neg (by omega), if_pos (by omega), show a / 16 - (f + 1) = cnt (zq x) t by omega, zOS ht16 htt]
         rw [e1]
         cases hb : zbK x (16 * t + a % 16) with
         | true => rw [if_pos ⟨d, by omega, rfl⟩]
         | false =>
          rw [if_neg (by rintro ⟨_, _, e⟩; cases e), zBY hb]
          unfold RO
          rw [if_neg (by omega), if_neg (by omega)]
          exact hz a (by omega) (by omega)
       . rw [if_neg (fun e => d e.1)]
         unfold RO
         by_cases c1 : a / 16 = f
         . rw [if_pos c1, if_pos c1]
           by_cases q : zq x (a % 16) = true /\ a % 16 < t
           . rw [if_pos q, if_pos ⟨q.1, by omega⟩]
           . rw [if_neg q, if_neg]
             rintro ⟨d1, d2⟩
             exact q ⟨d1, by omega⟩
         . rw [if_neg c1, if_neg c1]
           by_cases q : f + 1 <= a / 16 /\ a / 16 < f + 1 + cnt (zq x) t
           . rw [if_pos q, if_pos (show f + 1 <= a / 16 /\ a / 16 < f + 1 + cnt (zq x) (t + 1) by omega)]
           . rw [if_neg q, if_neg (show ¬ (f + 1 <= a / 16 /\ a / 16 < f + 1 + cnt (zq x) (t + 1)) by omega)]
    rw [e2]
    exact ih (t + 1) (by omega)
 have e0 : mk N h = mk N (RO x f h 0) := zaC fun a _ => by
  unfold RO
  by_cases c : a / 16 = f
  . rw [if_pos c, if_neg (by omega)]
  . rw [if_neg c, if_neg (show ¬ (f + 1 <= a / 16 /\ a / 16 < f + 1 + cnt (zq x) 0) by have : cnt (zq x) 0 = 0 := rfl; omega)]
 have e16 : mk N (RO x f h 16) = mk N (TW x f h) := zaC fun a _ => by
  have hnt : z5 x = cnt (zq x) 16 := rfl
  unfold RO TW WT
  by_cases c : a / 16 = f
  . rw [if_pos c, if_pos (show f <= a / 16 /\ a / 16 <= f + z5 x by omega), if_pos c]
    by_cases d : zq x (a % 16) = true
    . rw [if_pos ⟨d, by omega⟩, if_pos d]
    . rw [if_neg (fun e => d e.1), if_neg d]
      exact hz a (by omega) (by omega)
  . rw [if_neg c]
    by_cases d : f + 1 <= a / 16 /\ a / 16 < f + 1 + z5 x
    . rw [if_pos (show f + 1 <= a / 16 /\ a / 16 < f + 1 + cnt (zq x) 16 from d), if_pos (show f <= a / 16 /\ a / 16 <= f + z5 x by omega), if_neg c, if_pos d]
    . rw [if_neg (show ¬ (f + 1 <= a / 16 /\ a / 16 < f + 1 + cnt (zq x) 16) from d), if_neg (show ¬ (f <= a / 16 /\ a / 16 <= f + z5 x) by omega)]
 unfold zxb zol
 have hk := key 16 0 (by omega)
 rw [← e0, hm0, e16] at hk
 exact hk
end
theorem zyO (n : Int) : 0 <= u32.wrap n /\ u32.wrap n < 4294967296 := by
 simp [IntKind.wrap, IntKind.bits, IntKind.signed]; omega
theorem or32 (x y : Int) : bop .or .u32 x y = u32.wrap (((BitVec.ofInt 32 x ||| BitVec.ofInt 32 y).toNat : Nat) : Int) := by kernel_rfl
theorem ztd (a b : Int) : 0 <= zjg a b /\ zjg a b < 4294967296 := by
 unfold zjg
 rw [or32 (bop .or .u32 2147483648 (bop .shl .u32 (u32.wrap a) 3))]
 exact zyO _
theorem zGu (x : Partition) (pg : Nat) : 0 <= pgV x pg /\ pgV x pg < 4294967296 := by
 unfold pgV
 split
 . exact ztd _ _
 . exact ⟨Int.le_refl _, by omega⟩
theorem zKG (x : Partition) (f a : Nat) : 0 <= WT x f a /\ WT x f a < 4294967296 := by
 unfold WT
 split
 . split
   . exact ztd _ _
   . exact ⟨Int.le_refl _, by omega⟩
 . split
   . exact zGu _ _
   . exact ⟨Int.le_refl _, by omega⟩
theorem zAN (c : Config) : ∀ n, cAt c 0 <= cAt c n
 | 0 => Nat.le_refl _
 | n + 1 => by
  have := zAN c n
  show cAt c 0 <= cAt c n + 2 + stg (Ch c n) + (dl c n).length * prt (Ch c n)
  omega
theorem zGD {c : Config} {p : Nat} (hp : p < nP c) : (pAt c p + 18) / 16 < tF c 0 := by
 have h1 := zAN c (nC c)
 have h2 : cAt c 0 = 16 * K0 c + 2 + 24 * nP c := rfl
 have h3 : tF c 0 = (cAt c (nC c) + 15) / 16 := rfl
 have h4 : pAt c p = 16 * K0 c + 2 + 24 * p := rfl
 omega
structure BootI (c : Config) (p : Nat) (h : Nat -> Int) : Prop where
 rng : U32 h
 done : ∀ q, q < p -> ∀ a, tF c q <= a / 16 -> a / 16 <= tF c q + z5 (P c q) -> h a = WT (P c q) (tF c q) a
 zero : ∀ a, tF c p <= a / 16 -> h a = 0
theorem BootI.step {c : Config} {p : Nat} {h : Nat -> Int} (hb : BootI c p h) (g : zan c) (w : zpX c) (hp : p < nP c) (v : Int) (hv : 0 <= v /\ v < 4294967296) : BootI c (p + 1) (fun a => if a = pAt c p + 18 then v else TW (P c p) (tF c p) h a) := by
 have hs := zGD hp
 have hm0 := zgG g w (Nat.zero_le p)
 have e : tF c (p + 1) = tF c p + (1 + z5 (P c p)) := rfl
 refine ⟨fun a => ?_, fun q hq a h1 h2 => ?_, fun a h1 => ?_⟩
 . show 0 <= (if a = pAt c p + 18 then v else TW (P c p) (tF c p) h a) /\ _
   by_cases c1 : a = pAt c p + 18
   . rw [if_pos c1]; exact hv
   . rw [if_neg c1]
     unfold TW
     split
     . exact zKG _ _ _
     . exact hb.rng a
 . have hm1 := zgG g w (Nat.zero_le q)
   show (if a = pAt c p + 18 then v else TW (P c p) (tF c p) h a) = _
   rw [if_neg (by intro e; subst e; omega)]
   unfold TW
   by_cases hqp : q = p
   . subst hqp; rw [if_pos ⟨h1, h2⟩]
   . have hm2 := zgG g w (show q + 1 <= p by omega)
     have e2 : tF c (q + 1) = tF c q + (1 + z5 (P c q)) := rfl
     rw [if_neg (by omega)]
     exact hb.done q (by omega) a h1 h2
 . show (if a = pAt c p + 18 then v else TW (P c p) (tF c p) h a) = _
   rw [if_neg (by intro e; subst e; omega)]
   unfold TW
   rw [if_neg (by omega)]
   exact hb.zero a (by omega)
theorem zAM {c : Config} (hc : zbu c) (hv : zaL c = true) : ∃ h : Nat -> Int, BootI c (nP c) h /\ zpv c [] = some (mk (nW c) h, 0, -1) := by
 obtain ⟨k1, k2⟩ := zgo (zrD hc)
 have k1' : zkE c = true := k1
 have k2' : ((znO c).1 == 0) = zaL c := k2
 have hv' := hv
 simp only [zaL, Bool.and_eq_true] at hv'
 have g := zeY hc hv'.1
 have w := zhY g hv'.2
 obtain ⟨w1, w2⟩ := zml g w.kernel
 have hP : nP c <= 8 := g.few.parts
 obtain ⟨L, hL, hLp⟩ := zTh g w.kernel
 obtain ⟨o1, o2⟩ := zw hL
 have o1' : zal c = (L, 0) := o1
 have o2' : zkF c = true := o2
 have ew : i64.wrap (c.frames * 16) = (nW c : Int) := zo _ _ (by omega) (by omega)
 have key : ∀ r p, p + r = nP c -> ∀ h : Nat -> Int, BootI c p h -> ∃ h' : Nat -> Int, BootI c (nP c) h' /\ zpq c [] (.l4 (p : Int) (mk (nW c) h)) = some (mk (nW c) h', 0, -1) := by
  intro r
  induction r with
  | zero =>
   intro p hp m hm
   rw [Nat.add_zero] at hp
   subst hp
   refine ⟨m, hm, ?_⟩
   have hf : decide ((nP c : Int) < (c.partitions.length : Int)) = false := zR (Nat.le_refl _)
   rw [zik]
   simp only [zfz, hf, cnF, id]
  | succ r ih =>
   intro p hp m hm
   have hpn : p < nP c := by omega
   have hp' : p < c.partitions.length := hpn
   have hlen : p < L.partitions.length := by rw [hLp, zgw]; exact hpn
   have hat : zb L.partitions p = full c p := by rw [hLp, zjw hpn, if_pos hpn]
   have e1 := zHD (zoU g hpn) (zws g w hpn) m (fun a ha _ => hm.zero a ha)
   obtain ⟨t1, t2⟩ := zw e1
   have t1' : zCj (za c.partitions p) (full c p) (mk (nW c) m) = mk (nW c) (TW (P c p) (tF c p) m) := t1
   have t2' : zxP (za c.partitions p) (full c p) (mk (nW c) m) = true := t2
   have hs := (zts c).in_ _ (ref_mem.2 (.save hpn))
   have hs2 : pAt c p + 2 + 17 <= 16 * tF c (nP c) := hs.2
   have hne := w.need
   have hro := w.room
   have hsv : i64.wrap ((full c p).save + 16) = ((pAt c p + 18 : Nat) : Int) := zo _ _ (by show ((pAt c p + 2 : Nat) : Int) + 16 = _; omega) (by omega)
   have hin : pAt c p + 18 < nW c := by unfold nW; omega
   have e31 : ∀ m : List Int, zpq c [] (.l31 (p : Int) m) = zpq c [] (.l4 ((p + 1 : Nat) : Int) m) := fun m => by
    rw [zik]
    simp only [zfz, zi p (show p < 4611686018427387904 by omega)]
   have hp0 : decide ((p : Int) < (([] : List (List Int)).length : Int)) = false := zR (Nat.zero_le _)
   rw [zik]
   simp only [zfz, zW, zQ hp', zm hp', cnT, o1', zm hlen, hat, t1', t2', hsv, zM, zm hin, hp0, cnF, e31, zdw hin]
   exact ih (p + 1) (by omega) _ (hm.step g w hpn _ (zyO _))
 unfold zpv zl0
 have h0 : decide ((([] : List (List Int)).length : Int) > (c.partitions.length : Int)) = false := decide_eq_false (by simp)
 rw [k1', k2', hv, cnT, Bool.not_true, cnF, h0, cnF, zik]
 have h1 : decide ((0 : Int) < (([] : List (List Int)).length : Int)) = false := rfl
 simp only [zfz, h1, cnF, o2', cnT, ew]
 rw [show (decide True && decide (0 <= (nW c : Int)) && leB ((nW c : Int).toNat * 4) 140737488355328) = true from by rw [zW, zaO (by omega), decide_eq_true (show (0 : Int) <= (nW c : Int) by omega)]; rfl, cnT, zW]
 rw [ze3]
 exact key (nP c) 0 (Nat.zero_add _) _ ⟨fun i => ⟨Int.le_refl _, by omega⟩, fun q hq => absurd hq (Nat.not_lt_zero _), fun a _ => rfl⟩
def W32 (l : List Int) : Prop := U32 (zx l)
theorem W32.set {l : List Int} (h : W32 l) {i : Nat} {v : Int} (hv : 0 <= v /\ v < 4294967296) : W32 (List.set l i v) := fun j => by
 by_cases hi : i < l.length
 . have e : zx (List.set l i v) j = if j = i then v else zx l j := by
    simp only [zx, List.getD, List.getElem?_set]
    by_cases hij : i = j
    . subst hij; simp [hi]
    . rw [if_neg hij, if_neg fun e => hij e.symm]
   rw [e]
   split
   . exact hv
   . exact h j
 . rw [List.set_eq_of_length_le (by omega)]; exact h j
theorem zMC {c : Config} (hc : zbu c) {ts : List Bulkheadlaw28Turn} (ht : ts.length <= 140737488355328) (hw : ∀ i, i < ts.length -> 0 <= (zad ts i).word /\ (zad ts i).word < 4294967296) : ∃ m : List Int, m.length = nL c /\ W32 m /\ zHi c ts = some m := by
 have key : ∀ N, N <= 16384 -> ∀ r i, i + r = ts.length -> ∀ m : List Int, m.length = N -> W32 m -> ∃ m' : List Int, m'.length = N /\ W32 m' /\ zqv c ts (.l0 (i : Int) m) = some m' := by
  intro N hN r
  induction r with
  | zero =>
   intro i hi m hm hm2
   rw [Nat.add_zero] at hi
   subst hi
   refine ⟨m, hm, hm2, ?_⟩
   rw [zk0]
   simp only [znI, zR (Nat.le_refl _), cnF, id]
  | succ r ih =>
   intro i hi m hm hm2
   have hil : i < ts.length := by omega
   have e13 : ∀ m : List Int, zqv c ts (.l13 (i : Int) m) = zqv c ts (.l0 ((i + 1 : Nat) : Int) m) := fun m => by
    rw [zk0]
    simp only [znI, zi i (show i < 4611686018427387904 by omega)]
   rw [zk0]
   simp only [znI, zW, zQ hil, zm hil, cnT, e13]
   by_cases h1 : (zad ts i).at_ >= 0
   . by_cases h2 : (zad ts i).at_ < (m.length : Int)
     . rw [decide_eq_true h1, decide_eq_true h2, zbi h1 h2]
       exact ih (i + 1) (by omega) _ (by rw [List.length_set]; exact hm) (hm2.set (hw i hil))
     . rw [decide_eq_true h1, decide_eq_false h2]
       exact ih (i + 1) (by omega) m hm hm2
   . rw [decide_eq_false h1]
     exact ih (i + 1) (by omega) m hm hm2
 have e9 : ∀ m : List Int, zqv c ts (.l9 m) = zqv c ts (.l0 0 m) := fun m => by
  rw [zk0]; rfl
 unfold zHi zzF nL
 cases hv : zaL c with
 | false =>
  obtain ⟨b1, b2⟩ := zw (zKO hc hv)
  have b1' : zho c [] = ([], 240, -1) := b1
  have b2' : znj c [] = true := b2
  rw [b1', b2']
  show ∃ m : List Int, m.length = 16 /\ W32 m /\ zqv c ts (.l9 (List.replicate 16 0)) = some m
  rw [e9]
  refine key 16 (by omega) ts.length 0 (Nat.zero_add _) _ (List.length_replicate ..) fun j => ?_
  rw [ze3]
  by_cases hj : j < 16
  . rw [zap hj]; exact ⟨Int.le_refl _, by omega⟩
  . rw [zBG (by omega)]; exact ⟨Int.le_refl _, by omega⟩
 | true =>
  obtain ⟨h, hI, hb⟩ := zAM hc hv
  obtain ⟨b1, b2⟩ := zw hb
  have b1' : zho c [] = (mk (nW c) h, 0, -1) := b1
  have b2' : znj c [] = true := b2
  have hv' := hv
  simp only [zaL, Bool.and_eq_true] at hv'
  have g := zeY hc hv'.1
  have w := zhY g hv'.2
  obtain ⟨w1, w2⟩ := zml g w.kernel
  have hf := g.frames
  have hne : (((mk (nW c) h).length : Int) == 0) = false := beq_eq_false_iff_ne.2 (by rw [zM]; omega)
  rw [b1', b2']
  simp only [cnT, hne, cnF, e9]
  refine key (nW c) w1 ts.length 0 (Nat.zero_add _) _ (zM _ _) fun j => ?_
  by_cases hj : j < nW c
  . rw [zap hj]; exact hI.rng j
  . rw [zBG (by omega)]; exact ⟨Int.le_refl _, by omega⟩
theorem zla (c : Config) {i n : Nat} (h : i <= n) : cAt c i <= cAt c n := by
 induction n with
 | zero => rw [Nat.le_zero.1 h]; exact Nat.le_refl _
 | succ n ih =>
  by_cases hi : i <= n
  . have := ih hi
    show cAt c i <= cAt c n + 2 + stg (Ch c n) + (dl c n).length * prt (Ch c n)
    omega
  . obtain rfl : i = n + 1 := by omega
    exact Nat.le_refl _
section
variable {c : Config} (g : zan c) (w : zpX c)
include g w
theorem zfe : 16 * tF c (nP c) <= nW c /\ nW c <= 16384 := by
 have h2 := w.need
 have h3 := w.room
 have h4 := g.frames
 have h5 := w.kernel
 unfold nW; omega
theorem zp3 : cAt c (nC c) <= nW c := by
 have h1 := (zfe g w).1
 have h2 := zgG g w (Nat.zero_le (nP c))
 have h3 : tF c 0 = (cAt c (nC c) + 15) / 16 := rfl
 omega
theorem zwq {p : Nat} (hp : p < nP c) : pAt c p + 24 <= nW c := by
 have h1 := zp3 g w
 have h2 := zla c (Nat.zero_le (nC c))
 have h3 : cAt c 0 = 16 * K0 c + 2 + 24 * nP c := rfl
 have h4 : pAt c p = 16 * K0 c + 2 + 24 * p := rfl
 omega
theorem zAJ : 16 * K0 c + 2 <= nW c := by
 have h1 := zp3 g w
 have h2 := zla c (Nat.zero_le (nC c))
 have h3 : cAt c 0 = 16 * K0 c + 2 + 24 * nP c := rfl
 omega
theorem zkR {k : Nat} (hk : k < nC c) : cAt c k + 2 + stg (Ch c k) + (dl c k).length * prt (Ch c k) <= nW c := by
 have h1 := zp3 g w
 have h2 : cAt c (k + 1) <= cAt c (nC c) := zla c hk
 exact Nat.le_trans h2 h1
theorem zp4 {k j : Nat} (hk : k < nC c) (hj : j < (dl c k).length) : dAt c k + j * prt (Ch c k) + prt (Ch c k) <= nW c := by
 have h1 := zkR g w hk
 have h2 : (j + 1) * prt (Ch c k) <= (dl c k).length * prt (Ch c k) := Nat.mul_le_mul_right _ hj
 rw [Nat.add_mul, Nat.one_mul] at h2
 have h3 : dAt c k = cAt c k + 2 + stg (Ch c k) := rfl
 omega
end
structure zDT (c : Config) : Prop where
 rest : ∀ p, p < nP c -> 0 <= (P c p).restarts /\ (P c p).restarts <= 15
 outs : ∀ p, p < nP c -> 0 <= (P c p).outputs /\ (P c p).outputs <= 16
 cores : c.cores.length <= 100000
theorem zGo {c : Config} (h : zh7 c = true) : zDT c := by
 simp only [zh7, Bool.and_eq_true] at h
 obtain ⟨hw, hp, hh, hk⟩ := h
 have hp' := zhb hp
 have hpart : ∀ p, p < c.partitions.length -> _ := fun p hp => by
  have := hp' p hp
  simp only [zdx, zl7, Bool.and_eq_true, decide_eq_true_eq] at this
  exact this
 simp only [zbr, Bool.and_eq_true, decide_eq_true_eq] at hw
 refine ⟨fun p hp => ?_, fun p hp => ?_, ?_⟩
 . exact (hpart p hp).1.1.1.1.2.1.2
 . exact (hpart p hp).1.1.1.1.2.2.1.2
 . omega
section
variable {c : Config} {L : Layout} {N : Nat} {f : Nat -> Int}
theorem zj5 {out : List Problem} (hN : N <= 16384) {a : Nat} (ha : a < N) : zii (some ⟨c, L, some ⟨mk N f⟩, out⟩) (a : Int) = f a /\ zdT (some ⟨c, L, some ⟨mk N f⟩, out⟩) (a : Int) = true := by
 have hr := zvg (m := ⟨mk N f⟩) (i := a) (by rw [zM]; omega) (by omega)
 rw [zM, if_pos ha, zap ha] at hr
 obtain ⟨k1, k2⟩ := zw hr
 have k1' : zjA (some ⟨mk N f⟩) (a : Int) = (f a, 0) := k1
 have k2' : zgh (some ⟨mk N f⟩) (a : Int) = true := k2
 refine zw (?_ : zxm (some ⟨c, L, some ⟨mk N f⟩, out⟩) (a : Int) = some (f a))
 unfold zxm zsT
 show cond (zgh (some ⟨mk N f⟩) (a : Int)) (some (id (zjA (some ⟨mk N f⟩) (a : Int)).1)) none = _
 rw [k1', k2']; rfl
theorem zeW {m : Option MemMemory} {out : List Problem} (ho : out.length <= 100000) (y : Problem) : zcP [y] c L m out = ⟨c, L, m, out ++ [y]⟩ /\ zey [y] c L m out = true := by
 refine zw (?_ : zxn [y] c L m out = some ⟨c, L, m, out ++ [y]⟩)
 unfold zxn zsU
 rw [List.length_singleton, zaO (by omega)]; rfl
def zb2 (f : Nat -> Int) (idx : Int) (a : Nat) (most : Int) : List Problem := cond (decide (u32.wrap (f a - f (a + 1)) > most)) [⟨3, idx, (a : Int)⟩] []
theorem zBt {out : List Problem} (hN : N <= 16384) {a : Nat} (ha : a + 1 < N) (ho : out.length <= 100000) (idx : Int) {most : Int} (hm : 0 <= most /\ most <= 100000) : zw6 idx (a : Int) most c L (some ⟨mk N f⟩) out = some ⟨c, L, some ⟨mk N f⟩, out ++ zb2 f idx a most⟩ := by
 obtain ⟨w1, w2⟩ := zj5 (c := c) (L := L) (f := f) (out := out) hN (show a < N by omega)
 obtain ⟨v1, v2⟩ := zj5 (c := c) (L := L) (f := f) (out := out) hN ha
 obtain ⟨f1, f2⟩ := zeW (c := c) (L := L) (m := some ⟨mk N f⟩) ho ⟨3, idx, (a : Int)⟩
 have e1 : i64.wrap ((a : Int) + 1) = ((a + 1 : Nat) : Int) := zi a (by omega)
 have em : u32.wrap most = most := zd9 hm.1 (by omega)
 unfold zw6 zsC zb2
 rw [e1, em]
 show cond (zdT (some ⟨c, L, some ⟨mk N f⟩, out⟩) (a : Int)) (cond (zdT (some ⟨c, L, some ⟨mk N f⟩, out⟩) ((a + 1 : Nat) : Int)) (cond (decide (u32.wrap (zii (some ⟨c, L, some ⟨mk N f⟩, out⟩) (a : Int) - zii (some ⟨c, L, some ⟨mk N f⟩, out⟩) ((a + 1 : Nat) : Int)) > most)) (cond (zey [⟨3, idx, (a : Int)⟩] c L (some ⟨mk N f⟩) out) (some (zcP [⟨3, idx, (a : Int)⟩] c L (some ⟨mk N f⟩) out)) none) (some ⟨c, L, some ⟨mk N f⟩, out⟩)) none) none = _
 rw [w1, w2, v1, v2, f1, f2]
 cases decide (u32.wrap (f a - f (a + 1)) > most) with
 | false => simp
 | true => rfl
def zbz (c : Config) (f : Nat -> Int) (a : Nat) : List Problem := cond (decide (f a > (c.cores.length : Int)) || decide (f (a + 1) > 1073741824)) [⟨4, -1, (a : Int)⟩] []
theorem zQw {out : List Problem} (hN : N <= 16384) {a : Nat} (ha : a + 1 < N) (hb : L.barrier = (a : Int)) (hco : c.cores.length <= 100000) (ho : out.length <= 100000) : zw5 c L (some ⟨mk N f⟩) out = some ⟨c, L, some ⟨mk N f⟩, out ++ zbz c f a⟩ := by
 obtain ⟨w1, w2⟩ := zj5 (c := c) (L := L) (f := f) (out := out) hN (show a < N by omega)
 obtain ⟨v1, v2⟩ := zj5 (c := c) (L := L) (f := f) (out := out) hN ha
 obtain ⟨f1, f2⟩ := zeW (c := c) (L := L) (m := some ⟨mk N f⟩) ho ⟨4, -1, (a : Int)⟩
 have e1 : i64.wrap ((a : Int) + 1) = ((a + 1 : Nat) : Int) := zi a (by omega)
 have em : u32.wrap (c.cores.length : Int) = (c.cores.length : Int) := zd9 (by omega) (by omega)
 unfold zw5 zsB zbz
 rw [hb, e1, em]
 have f1' : zcP [(⟨4, (-1), (a : Int)⟩ : Problem)] c L (some ⟨mk N f⟩) out = _ := f1
 have w1' : zii (some (⟨(⟨c.frames, c.major, c.kernel, c.room, c.cores, c.partitions, c.channels⟩ : Config), (⟨L.barrier, L.partitions, L.channels, L.end_⟩ : Layout), some ⟨mk N f⟩, out⟩ : AuditFinder)) (a : Int) = f a := w1
 have w2' : zdT (some (⟨(⟨c.frames, c.major, c.kernel, c.room, c.cores, c.partitions, c.channels⟩ : Config), (⟨L.barrier, L.partitions, L.channels, L.end_⟩ : Layout), some ⟨mk N f⟩, out⟩ : AuditFinder)) (a : Int) = true := w2
 have v1' : zii (some (⟨(⟨c.frames, c.major, c.kernel, c.room, c.cores, c.partitions, c.channels⟩ : Config), (⟨L.barrier, L.partitions, L.channels, L.end_⟩ : Layout), some ⟨mk N f⟩, out⟩ : AuditFinder)) ((a + 1 : Nat) : Int) = f (a + 1) := v1
 have v2' : zdT (some (⟨(⟨c.frames, c.major, c.kernel, c.room, c.cores, c.partitions, c.channels⟩ : Config), (⟨L.barrier, L.partitions, L.channels, L.end_⟩ : Layout), some ⟨mk N f⟩, out⟩ : AuditFinder)) ((a + 1 : Nat) : Int) = true := v2
 rw [hb] at w1' w2' v1' v2'
 rw [w1', w2', v1', v2', f1', f2]
 have hLL : (⟨(⟨c.frames, c.major, c.kernel, c.room, c.cores, c.partitions, c.channels⟩ : Config), (⟨(a : Int), L.partitions, L.channels, L.end_⟩ : Layout), some ⟨mk N f⟩, out⟩ : AuditFinder) = ⟨c, L, some ⟨mk N f⟩, out⟩ := by rw [← hb]
 rw [hLL]
 cases decide (f a > (c.cores.length : Int)) with
 | true => rfl
 | false =>
  cases decide (f (a + 1) > 1073741824) with
  | true => rfl
  | false => simp
noncomputable def zgj (c : Config) (p i : Nat) : Int := zx [3, (P c p).restarts, 6, 4294967295, (P c p).outputs] i
noncomputable def stP (c : Config) (f : Nat -> Int) (p a : Nat) : List Problem := match (List.range 5).find? fun i => decide (f (a + i) > zgj c p i) with
 | some i => [⟨2, (p : Int), ((a + i : Nat) : Int)⟩]
 | none => []
theorem zHB {out : List Problem} (hN : N <= 16384) {p a : Nat} (hp : p < nP c) (hl : p < L.partitions.length) (hm : zDT c) (hs : (zb L.partitions p).state = (a : Int)) (ha : a + 5 <= N) (ho : out.length <= 100000) : zw7 (p : Int) c L (some ⟨mk N f⟩) out = some ⟨c, L, some ⟨mk N f⟩, out ++ stP c f p a⟩ := by
 have hr := hm.rest p hp
 have hu := hm.outs p hp
 have er : u32.wrap (P c p).restarts = (P c p).restarts := zd9 hr.1 (by omega)
 have eu : u32.wrap (P c p).outputs = (P c p).outputs := zd9 hu.1 (by omega)
 have er' : u32.wrap (za c.partitions p).restarts = (P c p).restarts := er
 have eu' : u32.wrap (za c.partitions p).outputs = (P c p).outputs := eu
 have hl5 := zgs (l := List.range 5) (f := fun i => zwO (p : Int) c L (some ⟨mk N f⟩) out (.l0 (i : Int))) (q := fun i => decide (f (a + i) > zgj c p i)) (g := fun i => some (⟨c, L, some ⟨mk N f⟩, out ++ [⟨2, (p : Int), ((a + i : Nat) : Int)⟩]⟩ : AuditFinder)) (e := some (⟨c, L, some ⟨mk N f⟩, out⟩ : AuditFinder)) (fun i hi => by
  rw [List.length_range] at hi
  rw [List.getElem_range]
  have e1 : i64.wrap ((a : Int) + (i : Int)) = ((a + i : Nat) : Int) := zo _ _ (by omega) (by omega)
  obtain ⟨w1, w2⟩ := zj5 (c := c) (L := L) (f := f) (out := out) hN (show a + i < N by omega)
  obtain ⟨f1, f2⟩ := zeW (c := c) (L := L) (m := some ⟨mk N f⟩) ho ⟨2, (p : Int), ((a + i : Nat) : Int)⟩
  have w1' : zii (some (⟨(⟨c.frames, c.major, c.kernel, c.room, c.cores, c.partitions, c.channels⟩ : Config), (⟨L.barrier, L.partitions, L.channels, L.end_⟩ : Layout), some ⟨mk N f⟩, out⟩ : AuditFinder)) ((a + i : Nat) : Int) = f (a + i) := w1
  have w2' : zdT (some (⟨(⟨c.frames, c.major, c.kernel, c.room, c.cores, c.partitions, c.channels⟩ : Config), (⟨L.barrier, L.partitions, L.channels, L.end_⟩ : Layout), some ⟨mk N f⟩, out⟩ : AuditFinder)) ((a + i : Nat) : Int) = true := w2
  rw [zt4]
  simp only [zhE, show decide ((i : Int) < 5) = true from decide_eq_true (by omega), cnT, show zN (i : Int) 5 = true from zm hi, zm hl, zW, hs, e1, w1', w2', er', eu', f1, f2, zi i (show i < 4611686018427387904 by omega), id]
  rfl) (by
  rw [List.length_range, zt4]
  simp only [zhE, show decide (((5 : Nat) : Int) < 5) = false from rfl, cnF, id])
 unfold zw7 zoh
 rw [show zN (p : Int) c.partitions.length = true from zm hp, cnT]
 refine hl5.trans ?_
 unfold stP
 cases (List.range 5).find? fun i => decide (f (a + i) > zgj c p i) with
 | none => simp
 | some i => rfl
end
noncomputable def stB (x : Channel) (g : Nat -> Int) : Bool := if x.kind = 2 then zmt g x.words.toNat x.depth.toNat else zbF g 2 x.words.toNat
noncomputable def ptB (x : Channel) (g : Nat -> Int) : Bool := if x.kind = 2 then zms g x.words.toNat x.depth.toNat else zbF g 3 x.words.toNat
theorem zKd {x : Channel} (h : x.kind = 1) : stg x = 2 + x.words.toNat := if_pos h
theorem zKe {x : Channel} (h : x.kind = 2) : stg x = 1 + x.depth.toNat * (1 + x.words.toNat) := by
 unfold stg body; rw [if_neg (by omega), if_neg (by omega)]
theorem zJR {x : Channel} (h : x.kind = 1) : prt x = 3 + x.words.toNat := by unfold prt body; rw [if_pos h]
theorem zJS {x : Channel} (h : x.kind = 2) : prt x = 3 + x.depth.toNat * (1 + x.words.toNat) := by unfold prt body; rw [if_neg (by omega)]
section
variable {N : Nat} {f : Nat -> Int} (hf : U32 f) (hN : N <= 16384) {x : Channel} (hx : zb9 x) {a : Nat}
include hf hN hx
theorem zCP (ha : a + stg x <= N) : zw1 x (mk N f) (a : Int) = some (stB x fun i => f (a + i)) := by
 obtain ⟨h1, h2⟩ := hx.words
 have hw : ((x.words.toNat : Nat) : Int) = x.words := by omega
 unfold zw1 zsz stB
 rcases hx.kind with hk | hk
 . obtain ⟨r, hr⟩ := zAf hf (N := N) (a := a) (W := x.words.toNat) (by omega) (by omega) (by omega) (by rw [zKd hk] at ha; omega)
   rw [hw] at hr
   obtain ⟨k1, k2⟩ := zw hr
   have k1' : zCn (some ⟨mk N f⟩) (a : Int) x.words = _ := k1
   have k2' : zxW (some ⟨mk N f⟩) (a : Int) x.words = true := k2
   rw [if_neg (by omega), hk, k1', k2']
   show some (id (cond (zbF (fun i => f (a + i)) 2 x.words.toNat) (0 : Int) 191 == 0)) = _
   rw [zEO]; rfl
 . obtain ⟨d1, d2⟩ := hx.depth.1 hk
   have hd : ((x.depth.toNat : Nat) : Int) = x.depth := by omega
   obtain ⟨r, hr⟩ := zzZ hf (N := N) (a := a) (W := x.words.toNat) (D := x.depth.toNat) (by omega) (by omega) (by omega) (by omega) (by omega) (by rw [zKe hk] at ha; exact ha)
   rw [hw, hd] at hr
   obtain ⟨k1, k2⟩ := zw hr
   have k1' : zvt (mk N f) (a : Int) x.words x.depth = _ := k1
   have k2' : zxV (mk N f) (a : Int) x.words x.depth = true := k2
   rw [if_pos hk, hk, k1', k2']
   show some (id (cond (zmt (fun i => f (a + i)) x.words.toNat x.depth.toNat) (0 : Int) 201 == 0)) = _
   rw [zEP]; rfl
theorem zB2 (ha : a + prt x <= N) : zw2 x (mk N f) (a : Int) = some (ptB x fun i => f (a + i)) := by
 obtain ⟨h1, h2⟩ := hx.words
 have hw : ((x.words.toNat : Nat) : Int) = x.words := by omega
 unfold zw2 zsA ptB
 rcases hx.kind with hk | hk
 . obtain ⟨y, z, t, u, hr⟩ := zHv hf (N := N) (a := a) (W := x.words.toNat) (by omega) (by omega) (by omega) (by rw [zJR hk] at ha; omega)
   rw [hw] at hr
   obtain ⟨k1, k2⟩ := zw hr
   have k1' : ztS (a : Int) x.words (mk N f) = _ := k1
   have k2' : zxY (a : Int) x.words (mk N f) = true := k2
   rw [if_neg (by omega), hk, k1', k2']
   show some (id (cond (zbF (fun i => f (a + i)) 3 x.words.toNat) (0 : Int) 191 == 0)) = _
   rw [zEO]; rfl
 . obtain ⟨d1, d2⟩ := hx.depth.1 hk
   have hd : ((x.depth.toNat : Nat) : Int) = x.depth := by omega
   obtain ⟨r, hr⟩ := zGA hf (N := N) (a := a) (W := x.words.toNat) (D := x.depth.toNat) (by omega) (by omega) (by omega) (by omega) (by omega) (by rw [zJS hk] at ha; exact ha)
   rw [hw, hd] at hr
   obtain ⟨k1, k2⟩ := zw hr
   have k1' : zvu (mk N f) (a : Int) x.words x.depth = _ := k1
   have k2' : zxX (mk N f) (a : Int) x.words x.depth = true := k2
   rw [if_pos hk, hk, k1', k2']
   show some (id (cond (zms (fun i => f (a + i)) x.words.toNat x.depth.toNat) (0 : Int) 201 == 0)) = _
   rw [zEP]; rfl
theorem zHA {c : Config} {L : Layout} {out : List Problem} (hk : x.kind = 1) {y : ChannelPlace} (hy : y.stage = (a : Int)) (ha : a + stg x <= N) : (zCq (some ⟨c, L, some ⟨mk N f⟩, out⟩) y x == 0) = stB x (fun i => f (a + i)) /\ zx3 (some ⟨c, L, some ⟨mk N f⟩, out⟩) y x = true := by
 obtain ⟨h1, h2⟩ := hx.words
 have hw : ((x.words.toNat : Nat) : Int) = x.words := by omega
 obtain ⟨r, hr⟩ := zAe hf (N := N) (a := a) (W := x.words.toNat) (by omega) (by omega) (by omega) (by rw [zKd hk] at ha; omega)
 rw [hw] at hr
 obtain ⟨k1, k2⟩ := zw hr
 have k1' : zz9 (some ⟨mk N f⟩) (a : Int) x.words = _ := k1
 have k2' : zus (some ⟨mk N f⟩) (a : Int) x.words = true := k2
 have hs : zxs (some ⟨c, L, some ⟨mk N f⟩, out⟩) y x = some (cond (zbF (fun i => f (a + i)) 2 x.words.toNat) (0 : Int) 191) := by
  unfold zxs zsZ
  rw [hy]
  show cond (zus (some ⟨mk N f⟩) (a : Int) x.words) (some (id (zz9 (some ⟨mk N f⟩) (a : Int) x.words).2)) none = _
  rw [k1', k2']; rfl
 obtain ⟨q1, q2⟩ := zw hs
 refine ⟨?_, q2⟩
 rw [show zCq (some ⟨c, L, some ⟨mk N f⟩, out⟩) y x = _ from q1, zEO]
 unfold stB; rw [if_neg (by omega)]
theorem zCO {c : Config} {L : Layout} {out : List Problem} (hk : x.kind = 2) {y : ChannelPlace} (hy : y.stage = (a : Int)) (ha : a + stg x <= N) : (zCo (some ⟨c, L, some ⟨mk N f⟩, out⟩) y x == 0) = stB x (fun i => f (a + i)) /\ zx1 (some ⟨c, L, some ⟨mk N f⟩, out⟩) y x = true := by
 obtain ⟨h1, h2⟩ := hx.words
 have hw : ((x.words.toNat : Nat) : Int) = x.words := by omega
 obtain ⟨d1, d2⟩ := hx.depth.1 hk
 have hd : ((x.depth.toNat : Nat) : Int) = x.depth := by omega
 obtain ⟨r, hr⟩ := zzY hf (N := N) (a := a) (W := x.words.toNat) (D := x.depth.toNat) (by omega) (by omega) (by omega) (by omega) (by omega) (by rw [zKe hk] at ha; exact ha)
 rw [hw, hd] at hr
 obtain ⟨k1, k2⟩ := zw hr
 have k1' : zz8 (some ⟨mk N f⟩) (a : Int) x.words x.depth = _ := k1
 have k2' : zuq (some ⟨mk N f⟩) (a : Int) x.words x.depth = true := k2
 have hs : zxo (some ⟨c, L, some ⟨mk N f⟩, out⟩) y x = some (cond (zmt (fun i => f (a + i)) x.words.toNat x.depth.toNat) (0 : Int) 201) := by
  unfold zxo zsV
  rw [hy]
  show cond (zuq (some ⟨mk N f⟩) (a : Int) x.words x.depth) (some (id (zz8 (some ⟨mk N f⟩) (a : Int) x.words x.depth).2)) none = _
  rw [k1', k2']; rfl
 obtain ⟨q1, q2⟩ := zw hs
 refine ⟨?_, q2⟩
 rw [show zCo (some ⟨c, L, some ⟨mk N f⟩, out⟩) y x = _ from q1, zEP]
 unfold stB; rw [if_pos hk]
theorem zOp {c : Config} {L : Layout} {out : List Problem} (hk : x.kind = 1) (ha : a + prt x <= N) : (zCr (a : Int) (some ⟨c, L, some ⟨mk N f⟩, out⟩) x == 0) = ptB x (fun i => f (a + i)) /\ zx4 (a : Int) (some ⟨c, L, some ⟨mk N f⟩, out⟩) x = true := by
 obtain ⟨h1, h2⟩ := hx.words
 have hw : ((x.words.toNat : Nat) : Int) = x.words := by omega
 obtain ⟨y, z, t, hr⟩ := zHu hf (N := N) (a := a) (W := x.words.toNat) (by omega) (by omega) (by omega) (by rw [zJR hk] at ha; omega)
 rw [hw] at hr
 obtain ⟨k1, k2⟩ := zw hr
 have k1' : ztU (some ⟨mk N f⟩) (a : Int) x.words = _ := k1
 have k2' : zut (some ⟨mk N f⟩) (a : Int) x.words = true := k2
 have hs : zxu (a : Int) (some ⟨c, L, some ⟨mk N f⟩, out⟩) x = some (cond (zbF (fun i => f (a + i)) 3 x.words.toNat) (0 : Int) 191) := by
  unfold zxu zs1
  show cond (zut (some ⟨mk N f⟩) (a : Int) x.words) (some (id (ztU (some ⟨mk N f⟩) (a : Int) x.words).2.2.2)) none = _
  rw [k1', k2']; rfl
 obtain ⟨q1, q2⟩ := zw hs
 refine ⟨?_, q2⟩
 rw [show zCr (a : Int) (some ⟨c, L, some ⟨mk N f⟩, out⟩) x = _ from q1, zEO]
 unfold ptB; rw [if_neg (by omega)]
theorem zGy {c : Config} {L : Layout} {out : List Problem} (hk : x.kind = 2) (ha : a + prt x <= N) : (zCp (a : Int) (some ⟨c, L, some ⟨mk N f⟩, out⟩) x == 0) = ptB x (fun i => f (a + i)) /\ zx2 (a : Int) (some ⟨c, L, some ⟨mk N f⟩, out⟩) x = true := by
 obtain ⟨h1, h2⟩ := hx.words
 have hw : ((x.words.toNat : Nat) : Int) = x.words := by omega
 obtain ⟨d1, d2⟩ := hx.depth.1 hk
 have hd : ((x.depth.toNat : Nat) : Int) = x.depth := by omega
 obtain ⟨y, z, hr⟩ := zGz hf (N := N) (a := a) (W := x.words.toNat) (D := x.depth.toNat) (by omega) (by omega) (by omega) (by omega) (by omega) (by rw [zJS hk] at ha; exact ha)
 rw [hw, hd] at hr
 obtain ⟨k1, k2⟩ := zw hr
 have k1' : zvw (some ⟨mk N f⟩) (a : Int) x.words x.depth = _ := k1
 have k2' : zur (some ⟨mk N f⟩) (a : Int) x.words x.depth = true := k2
 have hs : zxq (a : Int) (some ⟨c, L, some ⟨mk N f⟩, out⟩) x = some (cond (zms (fun i => f (a + i)) x.words.toNat x.depth.toNat) (0 : Int) 201) := by
  unfold zxq zsX
  show cond (zur (some ⟨mk N f⟩) (a : Int) x.words x.depth) (some (id (zvw (some ⟨mk N f⟩) (a : Int) x.words x.depth).2.2)) none = _
  rw [k1', k2']; rfl
 obtain ⟨q1, q2⟩ := zw hs
 refine ⟨?_, q2⟩
 rw [show zCp (a : Int) (some ⟨c, L, some ⟨mk N f⟩, out⟩) x = _ from q1, zEP]
 unfold ptB; rw [if_pos hk]
end
noncomputable def zc8 (c : Config) (f : Nat -> Int) (k : Nat) : List Problem := cond (stB (Ch c k) fun i => f (cAt c k + 2 + i)) [] [⟨5, (k : Int), ((cAt c k + 2 : Nat) : Int)⟩]
noncomputable def zve (c : Config) (f : Nat -> Int) (k j : Nat) : List Problem := cond (ptB (Ch c k) fun i => f (dAt c k + j * prt (Ch c k) + i)) [] [⟨6, (k : Int), ((dAt c k + j * prt (Ch c k) : Nat) : Int)⟩]
noncomputable def zbn (c : Config) (f : Nat -> Int) (k n : Nat) : List Problem := (List.range n).flatMap (zve c f k)
theorem ze6 (c : Config) (f : Nat -> Int) (k n : Nat) : zbn c f k (n + 1) = zbn c f k n ++ zve c f k n := by
 unfold zbn; rw [List.range_succ, List.flatMap_append]; simp
theorem zns (c : Config) (f : Nat -> Int) (k : Nat) : (zc8 c f k).length <= 1 := by
 unfold zc8; cases stB (Ch c k) fun i => f (cAt c k + 2 + i) <;> simp
theorem zB3 (c : Config) (f : Nat -> Int) (k j : Nat) : (zve c f k j).length <= 1 := by
 unfold zve; cases ptB (Ch c k) fun i => f (dAt c k + j * prt (Ch c k) + i) <;> simp
theorem zgx (c : Config) (f : Nat -> Int) (k : Nat) : ∀ n, (zbn c f k n).length <= n
 | 0 => Nat.le_refl _
 | n + 1 => by
  have h1 := zgx c f k n
  have h2 := zB3 c f k n
  rw [ze6, List.length_append]; omega
theorem zBq (c : Config) : zyU c (lay c) := by
 refine ⟨rfl, rfl, by simp [lay, chL], fun k hk => ?_, fun k hk => ?_, fun k hk => ?_⟩
 . show (ze (chL c (nC c)) k).lock = _
   rw [zuK hk]; rfl
 . show (ze (chL c (nC c)) k).stage = _
   rw [zuK hk]; rfl
 . show (ze (chL c (nC c)) k).dests = _
   rw [zuK hk]; rfl
theorem zzz {c : Config} (g : zan c) (w : zpX c) {L : Layout} (hL : zyU c L) {f : Nat -> Int} (hf : U32 f) {k : Nat} (hk : k < nC c) {out : List Problem} (ho : out.length <= 50000) (hd : (dl c k).length <= 1000) : zw8 (k : Int) c L (some ⟨mk (nW c) f⟩) out = some ⟨c, L, some ⟨mk (nW c) f⟩, out ++ zc8 c f k ++ zbn c f k (dl c k).length⟩ := by
 have hN := (zfe g w).2
 have hch : zb9 (Ch c k) := (g.chan k hk).1
 have hch' : zb9 (zn c.channels k) := hch
 have hkL : k < L.channels.length := by rw [hL.len]; exact hk
 have hkc : k < c.channels.length := hk
 have hst := hL.stage k hk
 have hde := hL.dests k hk
 have hcl := zkR g w hk
 have hsb : cAt c k + 2 + stg (zn c.channels k) <= nW c := by
  have : cAt c k + 2 + stg (Ch c k) + (dl c k).length * prt (Ch c k) <= nW c := hcl
  show cAt c k + 2 + stg (Ch c k) <= nW c
  omega
 have hdl : (zao (prt (Ch c k)) (dAt c k) (dl c k)).length = (dl c k).length := zdQ _ _ _
 have hsl := zns c f k
 obtain ⟨f1, f2⟩ := zeW (c := c) (L := L) (m := some ⟨mk (nW c) f⟩) (out := out) (by omega) ⟨5, (k : Int), ((cAt c k + 2 : Nat) : Int)⟩
 have hat : ∀ j, j < (dl c k).length -> (zbe (zao (prt (Ch c k)) (dAt c k) (dl c k)) j).at_ = ((dAt c k + j * prt (Ch c k) : Nat) : Int) := fun j hj => by rw [zfM _ _ _ _ hj]
 have hS : ∀ j, j <= (dl c k).length -> (out ++ zc8 c f k ++ zbn c f k j).length <= 100000 := fun j hj => by
  have := zgx c f k j
  rw [List.length_append, List.length_append]; omega
 unfold zw8 zoi
 rw [zm hkc, zm hkL, zW, cnT, cnT]
 rcases hch.kind with hkind | hkind
 . have hkind' : (zn c.channels k).kind = 1 := hkind
   rw [hkind', show ((1 : Int) == 1) = true from rfl, cnT]
   obtain ⟨s1, s2⟩ := zHA hf hN hch' (c := c) (L := L) (out := out) hkind' hst hsb
   have loop : zbO (k : Int) c L (some ⟨mk (nW c) f⟩) out (.l0 0 c.frames c.major c.kernel c.room c.cores c.partitions c.channels L.barrier L.partitions L.channels L.end_ (some ⟨mk (nW c) f⟩) (out ++ zc8 c f k)) = some ⟨c, L, some ⟨mk (nW c) f⟩, out ++ zc8 c f k ++ zbn c f k (dl c k).length⟩ := by
    have e29 : ∀ (j : Nat) (o : List Problem), j <= 1000 -> zbO (k : Int) c L (some ⟨mk (nW c) f⟩) out (.l29 (j : Int) c.frames c.major c.kernel c.room c.cores c.partitions c.channels L.barrier L.partitions L.channels L.end_ (some ⟨mk (nW c) f⟩) o) = zbO (k : Int) c L (some ⟨mk (nW c) f⟩) out (.l0 ((j + 1 : Nat) : Int) c.frames c.major c.kernel c.room c.cores c.partitions c.channels L.barrier L.partitions L.channels L.end_ (some ⟨mk (nW c) f⟩) o) := fun j o hj => by
     rw [zbP]
     simp only [zdq, zi j (show j < 4611686018427387904 by omega)]
    have hl := zz (n := (dl c k).length) (f := fun (j : Nat) (o : List Problem) => zbO (k : Int) c L (some ⟨mk (nW c) f⟩) out (.l0 (j : Int) c.frames c.major c.kernel c.room c.cores c.partitions c.channels L.barrier L.partitions L.channels L.end_ (some ⟨mk (nW c) f⟩) o)) (S := fun j => out ++ zc8 c f k ++ zbn c f k j) (fun j hj => by
     show zbO _ _ _ _ _ _ = zbO _ _ _ _ _ _
     have hpb := zp4 g w hk hj
     obtain ⟨p1, p2⟩ := zOp hf hN hch' (c := c) (L := L) (out := out ++ zc8 c f k ++ zbn c f k j) (a := dAt c k + j * prt (Ch c k)) hkind' hpb
     obtain ⟨q1, q2⟩ := zeW (c := c) (L := L) (m := some ⟨mk (nW c) f⟩) (hS j (by omega)) ⟨6, (k : Int), ((dAt c k + j * prt (Ch c k) : Nat) : Int)⟩
     rw [zbP]
     simp only [zdq, zW, hde, hdl, zQ hj, cnT, zm hj, hat j hj, p1, p2, q1, q2, e29 j _ (show j <= 1000 by omega), ze6]
     unfold zve
     have hCh : zn c.channels k = Ch c k := rfl
     rw [hCh]
     cases ptB (Ch c k) fun i => f (dAt c k + j * prt (Ch c k) + i) with
     | true => simp
     | false => simp [List.append_assoc])
    have h0 : out ++ zc8 c f k ++ zbn c f k 0 = out ++ zc8 c f k := by simp [zbn]
    rw [h0] at hl
    refine hl.trans ?_
    show zbO _ _ _ _ _ _ = _
    rw [zbP]
    simp only [zdq, zW, hde, hdl, zR (Nat.le_refl _), cnF, id]
   have e19 : ∀ o : List Problem, zbO (k : Int) c L (some ⟨mk (nW c) f⟩) out (.l19 c.frames c.major c.kernel c.room c.cores c.partitions c.channels L.barrier L.partitions L.channels L.end_ (some ⟨mk (nW c) f⟩) o) = zbO (k : Int) c L (some ⟨mk (nW c) f⟩) out (.l0 0 c.frames c.major c.kernel c.room c.cores c.partitions c.channels L.barrier L.partitions L.channels L.end_ (some ⟨mk (nW c) f⟩) o) := fun o => by
    rw [zbP]; rfl
   rw [zbP]
   have hCh : zn c.channels k = Ch c k := rfl
   simp only [zdq, zW, hst, f1, f2, cnT, e19]
   rw [s2, s1, ← loop, hCh]
   unfold zc8
   cases stB (Ch c k) fun i => f (cAt c k + 2 + i) with
   | true => simp
   | false => rfl
 . have hkind' : (zn c.channels k).kind = 2 := hkind
   rw [hkind', show ((2 : Int) == 1) = false from rfl, cnF]
   obtain ⟨s1, s2⟩ := zCO hf hN hch' (c := c) (L := L) (out := out) hkind' hst hsb
   have loop : zbO (k : Int) c L (some ⟨mk (nW c) f⟩) out (.l1000 0 c.frames c.major c.kernel c.room c.cores c.partitions c.channels L.barrier L.partitions L.channels L.end_ (some ⟨mk (nW c) f⟩) (out ++ zc8 c f k)) = some ⟨c, L, some ⟨mk (nW c) f⟩, out ++ zc8 c f k ++ zbn c f k (dl c k).length⟩ := by
    have e29 : ∀ (j : Nat) (o : List Problem), j <= 1000 -> zbO (k : Int) c L (some ⟨mk (nW c) f⟩) out (.l1029 (j : Int) c.frames c.major c.kernel c.room c.cores c.partitions c.channels L.barrier L.partitions L.channels L.end_ (some ⟨mk (nW c) f⟩) o) = zbO (k : Int) c L (some ⟨mk (nW c) f⟩) out (.l1000 ((j + 1 : Nat) : Int) c.frames c.major c.kernel c.room c.cores c.partitions c.channels L.barrier L.partitions L.channels L.end_ (some ⟨mk (nW c) f⟩) o) := fun j o hj => by
     rw [zbP]
     simp only [zdq, zi j (show j < 4611686018427387904 by omega)]
    have hl := zz (n := (dl c k).length) (f := fun (j : Nat) (o : List Problem) => zbO (k : Int) c L (some ⟨mk (nW c) f⟩) out (.l1000 (j : Int) c.frames c.major c.kernel c.room c.cores c.partitions c.channels L.barrier L.partitions L.channels L.end_ (some ⟨mk (nW c) f⟩) o)) (S := fun j => out ++ zc8 c f k ++ zbn c f k j) (fun j hj => by
     show zbO _ _ _ _ _ _ = zbO _ _ _ _ _ _
     have hpb := zp4 g w hk hj
     obtain ⟨p1, p2⟩ := zGy hf hN hch' (c := c) (L := L) (out := out ++ zc8 c f k ++ zbn c f k j) (a := dAt c k + j * prt (Ch c k)) hkind' hpb
     obtain ⟨q1, q2⟩ := zeW (c := c) (L := L) (m := some ⟨mk (nW c) f⟩) (hS j (by omega)) ⟨6, (k : Int), ((dAt c k + j * prt (Ch c k) : Nat) : Int)⟩
     rw [zbP]
     simp only [zdq, zW, hde, hdl, zQ hj, cnT, zm hj, hat j hj, p1, p2, q1, q2, e29 j _ (show j <= 1000 by omega), ze6]
     unfold zve
     have hCh : zn c.channels k = Ch c k := rfl
     rw [hCh]
     cases ptB (Ch c k) fun i => f (dAt c k + j * prt (Ch c k) + i) with
     | true => simp
     | false => simp [List.append_assoc])
    have h0 : out ++ zc8 c f k ++ zbn c f k 0 = out ++ zc8 c f k := by simp [zbn]
    rw [h0] at hl
    refine hl.trans ?_
    show zbO _ _ _ _ _ _ = _
    rw [zbP]
    simp only [zdq, zW, hde, hdl, zR (Nat.le_refl _), cnF, id]
   have e19 : ∀ o : List Problem, zbO (k : Int) c L (some ⟨mk (nW c) f⟩) out (.l1019 c.frames c.major c.kernel c.room c.cores c.partitions c.channels L.barrier L.partitions L.channels L.end_ (some ⟨mk (nW c) f⟩) o) = zbO (k : Int) c L (some ⟨mk (nW c) f⟩) out (.l1000 0 c.frames c.major c.kernel c.room c.cores c.partitions c.channels L.barrier L.partitions L.channels L.end_ (some ⟨mk (nW c) f⟩) o) := fun o => by
    rw [zbP]; rfl
   rw [zbP]
   have hCh : zn c.channels k = Ch c k := rfl
   simp only [zdq, zW, hst, f1, f2, cnT, e19]
   rw [s2, s1, ← loop, hCh]
   unfold zc8
   cases stB (Ch c k) fun i => f (cAt c k + 2 + i) with
   | true => simp
   | false => rfl
def zdW (X : Nat -> List Problem) (n : Nat) : List Problem := (List.range n).flatMap X
theorem zcd (X : Nat -> List Problem) : zdW X 0 = [] := rfl
theorem zaN (X : Nat -> List Problem) (n : Nat) : zdW X (n + 1) = zdW X n ++ X n := by
 unfold zdW; rw [List.range_succ, List.flatMap_append]; simp
theorem zdi {X : Nat -> List Problem} {b : Nat} (h : ∀ i, (X i).length <= b) : ∀ n, (zdW X n).length <= n * b
 | 0 => by rw [zcd]; simp
 | n + 1 => by
  have h1 := zdi h n
  have h2 := h n
  rw [zaN, List.length_append, Nat.add_mul]; omega
noncomputable def zvN (c : Config) (f : Nat -> Int) (p n i : Nat) : List Problem := cond (f (16 * (tF c p + n) + i) == WT (P c p) (tF c p) (16 * (tF c p + n) + i)) [] [⟨1, (p : Int), ((16 * (tF c p + n) + i : Nat) : Int)⟩]
noncomputable def zez (c : Config) (f : Nat -> Int) (p n i : Nat) : List Problem := zdW (zvN c f p n) i
noncomputable def zfu (c : Config) (f : Nat -> Int) (p n : Nat) : List Problem := zdW (fun n => zez c f p n 16) n
theorem zCR (c : Config) (f : Nat -> Int) (p n i : Nat) : (zvN c f p n i).length <= 1 := by
 unfold zvN; cases f (16 * (tF c p + n) + i) == WT (P c p) (tF c p) (16 * (tF c p + n) + i) <;> simp
theorem znu (c : Config) (f : Nat -> Int) (p n i : Nat) : (zez c f p n i).length <= i := by
 have := zdi (zCR c f p n) i
 unfold zez; omega
theorem znv (c : Config) (f : Nat -> Int) (p n : Nat) : (zfu c f p n).length <= n * 16 := zdi (fun n => znu c f p n 16) n
theorem zoJ {f n j : Nat} (h : j < 1 + n) : zx ([(f : Int)] ++ tabs f n) j = ((f + j : Nat) : Int) := by
 cases j with
 | zero => rfl
 | succ j =>
  have h1 : zx ([(f : Int)] ++ tabs f n) (j + 1) = zx (tabs f n) j := rfl
  rw [h1, zk3 (by omega)]
  congr 1; omega
theorem zds (f n : Nat) : ([(f : Int)] ++ tabs f n).length = 1 + n := by rw [List.length_append, zdI]; rfl
section
variable {c : Config} (g : zan c) (w : zpX c)
include g w
theorem zrB {p n i : Nat} (hp : p < nP c) (hn : n < 1 + z5 (P c p)) (hi : i < 16) : 16 * (tF c p + n) + i < nW c := by
 have h1 := (zfe g w).1
 have h2 := zgG g w (show p + 1 <= nP c by omega)
 have h3 : tF c (p + 1) = tF c p + (1 + z5 (P c p)) := rfl
 omega
theorem zSw : zxw c.frames = some (⟨mk (nW c) fun _ => 0⟩, 0) := by
 have hf := g.frames
 obtain ⟨w1, w2⟩ := zml g w.kernel
 have ew : i64.wrap (c.frames * 16) = (nW c : Int) := zo _ _ (by omega) (by omega)
 unfold zxw zs3
 rw [decide_eq_false (show ¬ c.frames < 1 by omega), decide_eq_false (show ¬ c.frames > 1024 by omega), ew, mkT (by omega) (by omega) (by decide), cnF, cnF, cnT, zW, List.length_replicate, ze3]
 rfl
theorem zCU {L : Layout} (hL : zyU c L) {f : Nat -> Int} {p : Nat} (hp : p < nP c) {out : List Problem} (ho : out.length <= 50000) : zw9 (p : Int) c L (some ⟨mk (nW c) f⟩) out = some ⟨c, L, some ⟨mk (nW c) f⟩, out ++ zfu c f p (1 + z5 (P c p))⟩ := by
 have hN := (zfe g w).2
 have hnt : z5 (P c p) <= 16 := zaF _ _
 obtain ⟨w1, w2⟩ := zml g w.kernel
 have hlen : p < L.partitions.length := by rw [hL.parts, zgw]; exact hp
 have hpc : p < c.partitions.length := hp
 have hat : zb L.partitions p = full c p := by rw [hL.parts, zjw hp, if_pos hp]
 have hpf := zws g w hp
 obtain ⟨n1, n2⟩ := zw (zSw g w)
 have n1' : zqm c.frames = (⟨mk (nW c) fun _ => 0⟩, 0) := n1
 have n2' : zx5 c.frames = true := n2
 have hfr := g.frames
 obtain ⟨b1, b2⟩ := zw (zEM (zCd g hp) (N := nW c) (f := tF c p) hN (by have := hpf.room; omega) rfl)
 have b1' : ztV (full c p).root (full c p).tables (za c.partitions p).regions (mk (nW c) fun _ => 0) = (0, ⟨mk (nW c) (WT (P c p) (tF c p))⟩) := b1
 have b2' : zx6 (full c p).root (full c p).tables (za c.partitions p).regions (mk (nW c) fun _ => 0) = true := b2
 have hfl : ([(full c p).root] ++ (full c p).tables : List Int) = [(tF c p : Int)] ++ tabs (tF c p) (z5 (P c p)) := rfl
 have e27 : ∀ (x y : Int) (i : Nat) (o : List Problem), i <= 1000 -> zdF (p : Int) c L (some ⟨mk (nW c) f⟩) out (.l27 x y (i : Int) c.frames c.major c.kernel c.room c.cores c.partitions c.channels L.barrier L.partitions L.channels L.end_ (some ⟨mk (nW c) f⟩) o) = zdF (p : Int) c L (some ⟨mk (nW c) f⟩) out (.l4 x y ((i + 1 : Nat) : Int) c.frames c.major c.kernel c.room c.cores c.partitions c.channels L.barrier L.partitions L.channels L.end_ (some ⟨mk (nW c) f⟩) o) := fun x y i o hi => by
  rw [zga]
  simp only [zfi, zi i (show i < 4611686018427387904 by omega)]
 have inner : ∀ n, n < 1 + z5 (P c p) -> ∀ o : List Problem, o.length <= 60000 -> zdF (p : Int) c L (some ⟨mk (nW c) f⟩) out (.l4 ((tF c p + n : Nat) : Int) (n : Int) 0 c.frames c.major c.kernel c.room c.cores c.partitions c.channels L.barrier L.partitions L.channels L.end_ (some ⟨mk (nW c) f⟩) o) = zdF (p : Int) c L (some ⟨mk (nW c) f⟩) out (.l0 ((n + 1 : Nat) : Int) c.frames c.major c.kernel c.room c.cores c.partitions c.channels L.barrier L.partitions L.channels L.end_ (some ⟨mk (nW c) f⟩) (o ++ zez c f p n 16)) := fun n hn o hoo => by
  have htl := zrB g w hp hn (show 15 < 16 by omega)
  have e1 : i64.wrap (16 * ((tF c p + n : Nat) : Int)) = ((16 * (tF c p + n) : Nat) : Int) := zo _ _ (by omega) (by omega)
  have hl := zz (n := 16) (f := fun (i : Nat) (o : List Problem) => zdF (p : Int) c L (some ⟨mk (nW c) f⟩) out (.l4 ((tF c p + n : Nat) : Int) (n : Int) (i : Int) c.frames c.major c.kernel c.room c.cores c.partitions c.channels L.barrier L.partitions L.channels L.end_ (some ⟨mk (nW c) f⟩) o)) (S := fun i => o ++ zez c f p n i) (fun i hi => by
   show zdF _ _ _ _ _ _ = zdF _ _ _ _ _ _
   have ha := zrB g w hp hn hi
   have e2 : i64.wrap (((16 * (tF c p + n) : Nat) : Int) + (i : Int)) = ((16 * (tF c p + n) + i : Nat) : Int) := zo _ _ (by omega) (by omega)
   have hil := znu c f p n i
   have hol : (o ++ zez c f p n i).length <= 100000 := by rw [List.length_append]; omega
   obtain ⟨r1, r2⟩ := zj5 (c := c) (L := L) (f := f) (out := o ++ zez c f p n i) hN ha
   have hr := zvg (m := ⟨mk (nW c) (WT (P c p) (tF c p))⟩) (i := 16 * (tF c p + n) + i) (by rw [zM]; omega) (by omega)
   rw [zM, if_pos ha, zap ha] at hr
   obtain ⟨m1, m2⟩ := zw hr
   have m1' : zjA (some ⟨mk (nW c) (WT (P c p) (tF c p))⟩) ((16 * (tF c p + n) + i : Nat) : Int) = (WT (P c p) (tF c p) (16 * (tF c p + n) + i), 0) := m1
   have m2' : zgh (some ⟨mk (nW c) (WT (P c p) (tF c p))⟩) ((16 * (tF c p + n) + i : Nat) : Int) = true := m2
   obtain ⟨q1, q2⟩ := zeW (c := c) (L := L) (m := some ⟨mk (nW c) f⟩) hol ⟨1, (p : Int), ((16 * (tF c p + n) + i : Nat) : Int)⟩
   rw [zga]
   simp only [zfi, show decide ((i : Int) < 16) = true from decide_eq_true (by omega), cnT, zW, hat, n1', b1', e1, e2, m1', m2', r1, r2, q1, q2, e27 _ _ i _ (show i <= 1000 by omega)]
   have hs : zez c f p n (i + 1) = zez c f p n i ++ zvN c f p n i := zaN _ _
   rw [hs]
   unfold zvN
   have hc : (WT (P c p) (tF c p) (16 * (tF c p + n) + i) == f (16 * (tF c p + n) + i)) = (f (16 * (tF c p + n) + i) == WT (P c p) (tF c p) (16 * (tF c p + n) + i)) := Bool.beq_comm
   rw [hc]
   cases f (16 * (tF c p + n) + i) == WT (P c p) (tF c p) (16 * (tF c p + n) + i) with
   | true => simp
   | false => simp [List.append_assoc])
  have h0 : o ++ zez c f p n 0 = o := by unfold zez; rw [zcd, List.append_nil]
  rw [h0] at hl
  refine hl.trans ?_
  show zdF _ _ _ _ _ _ = _
  rw [zga]
  simp only [zfi, show decide (((16 : Nat) : Int) < 16) = false from rfl, cnF, zi n (show n < 4611686018427387904 by omega)]
 have hl := zz (n := 1 + z5 (P c p)) (f := fun (n : Nat) (o : List Problem) => zdF (p : Int) c L (some ⟨mk (nW c) f⟩) out (.l0 (n : Int) c.frames c.major c.kernel c.room c.cores c.partitions c.channels L.barrier L.partitions L.channels L.end_ (some ⟨mk (nW c) f⟩) o)) (S := fun n => out ++ zfu c f p n) (fun n hn => by
  show zdF _ _ _ _ _ _ = zdF _ _ _ _ _ _
  have hnl := znv c f p n
  have := inner n hn (out ++ zfu c f p n) (by rw [List.length_append]; omega)
  have hs : zfu c f p (n + 1) = zfu c f p n ++ zez c f p n 16 := zaN _ _
  rw [hs, ← List.append_assoc, ← this, zga]
  simp only [zfi, zW, hat, hfl, zds, zQ hn, zm hn, cnT, zoJ hn])
 unfold zw9 zoj
 rw [zm hlen, n2', zm hpc, zW, hat, n1', b2', cnT, cnT, cnT, cnT, show (full c p).tables.length = z5 (P c p) from zdI _ _, List.length_singleton, zaO (show (1 + z5 (P c p)) * 8 <= 140737488355328 by omega), cnT]
 have h0 : out ++ zfu c f p 0 = out := by unfold zfu; rw [zcd, List.append_nil]
 rw [h0] at hl
 refine hl.trans ?_
 show zdF _ _ _ _ _ _ = _
 rw [zga]
 simp only [zfi, zW, hat, hfl, zds, zR (Nat.le_refl _), cnF, id]
noncomputable def zcR (c : Config) (f : Nat -> Int) (n : Nat) : List Problem := zdW (fun p => zfu c f p (1 + z5 (P c p))) n
theorem zj4 (f : Nat -> Int) (n : Nat) : (zcR c f n).length <= n * 272 := zdi (fun p => by
 have h1 := znv c f p (1 + z5 (P c p))
 have h2 : z5 (P c p) <= 16 := zaF _ _
 omega) n
theorem zCV {L : Layout} (hL : zyU c L) (hc : zbu c) (hv : zaL c = true) {f : Nat -> Int} {out : List Problem} (ho : out.length <= 30000) : zw3 c L (mk (nW c) f) out = some (out ++ zcR c f (nP c)) := by
 have hN := (zfe g w).2
 have hP := g.few.parts
 have hpl : L.partitions.length = nP c := by rw [hL.parts, zgw]
 obtain ⟨h, hI, hb⟩ := zAM hc hv
 obtain ⟨k1, k2⟩ := zw hb
 have k1' : zho c [] = (mk (nW c) h, 0, -1) := k1
 have k2' : znj c [] = true := k2
 have e25 : ∀ (x y : Int) (i : Nat) (o : List Problem) (l : List Int), i <= 1000 -> zbM c L (mk (nW c) f) out (.l25 x y (i : Int) o l) = zbM c L (mk (nW c) f) out (.l8 x y ((i + 1 : Nat) : Int) o l) := fun x y i o l hi => by
  rw [zdE]
  simp only [zdO, zi i (show i < 4611686018427387904 by omega)]
 have inner : ∀ p, p < nP c -> ∀ n, n < 1 + z5 (P c p) -> ∀ o : List Problem, o.length <= 60000 -> zbM c L (mk (nW c) f) out (.l8 (p : Int) (n : Int) 0 o ([(tF c p : Int)] ++ tabs (tF c p) (z5 (P c p)))) = zbM c L (mk (nW c) f) out (.l4 (p : Int) ((n + 1 : Nat) : Int) (o ++ zez c f p n 16) ([(tF c p : Int)] ++ tabs (tF c p) (z5 (P c p)))) := fun p hp n hn o hoo => by
  have hnt : z5 (P c p) <= 16 := zaF _ _
  have htl := zrB g w hp hn (show 15 < 16 by omega)
  have e1 : i64.wrap (((tF c p + n : Nat) : Int) * 16) = ((16 * (tF c p + n) : Nat) : Int) := zo _ _ (by omega) (by omega)
  have hl := zz (n := 16) (f := fun (i : Nat) (o : List Problem) => zbM c L (mk (nW c) f) out (.l8 (p : Int) (n : Int) (i : Int) o ([(tF c p : Int)] ++ tabs (tF c p) (z5 (P c p))))) (S := fun i => o ++ zez c f p n i) (fun i hi => by
   show zbM _ _ _ _ _ = zbM _ _ _ _ _
   have ha := zrB g w hp hn hi
   have e2 : i64.wrap (((16 * (tF c p + n) : Nat) : Int) + (i : Int)) = ((16 * (tF c p + n) + i : Nat) : Int) := zo _ _ (by omega) (by omega)
   have hil := znu c f p n i
   have hw : h (16 * (tF c p + n) + i) = WT (P c p) (tF c p) (16 * (tF c p + n) + i) := hI.done p hp _ (by omega) (by omega)
   rw [zdE]
   simp only [zdO, show decide ((i : Int) < 16) = true from decide_eq_true (by omega), cnT, zW, zds, zm hn, zoJ hn, k1', e1, e2, zM, zm ha, zap ha, hw, List.length_singleton, zaO (show ((o ++ zez c f p n i).length + 1) * 24 <= 140737488355328 by rw [List.length_append]; omega), e25 _ _ i _ _ (show i <= 1000 by omega)]
   have hs : zez c f p n (i + 1) = zez c f p n i ++ zvN c f p n i := zaN _ _
   rw [hs]
   unfold zvN
   cases f (16 * (tF c p + n) + i) == WT (P c p) (tF c p) (16 * (tF c p + n) + i) with
   | true => simp
   | false => simp [List.append_assoc])
  have h0 : o ++ zez c f p n 0 = o := by unfold zez; rw [zcd, List.append_nil]
  rw [h0] at hl
  refine hl.trans ?_
  show zbM _ _ _ _ _ = _
  rw [zdE]
  simp only [zdO, show decide (((16 : Nat) : Int) < 16) = false from rfl, cnF, zi n (show n < 4611686018427387904 by omega)]
 have mid : ∀ p, p < nP c -> ∀ o : List Problem, o.length <= 50000 -> zbM c L (mk (nW c) f) out (.l4 (p : Int) 0 o ([(tF c p : Int)] ++ tabs (tF c p) (z5 (P c p)))) = zbM c L (mk (nW c) f) out (.l0 ((p + 1 : Nat) : Int) (o ++ zfu c f p (1 + z5 (P c p)))) := fun p hp o hoo => by
  have hnt : z5 (P c p) <= 16 := zaF _ _
  have hl := zz (n := 1 + z5 (P c p)) (f := fun (n : Nat) (o : List Problem) => zbM c L (mk (nW c) f) out (.l4 (p : Int) (n : Int) o ([(tF c p : Int)] ++ tabs (tF c p) (z5 (P c p))))) (S := fun n => o ++ zfu c f p n) (fun n hn => by
   show zbM _ _ _ _ _ = zbM _ _ _ _ _
   have hnl := znv c f p n
   have := inner p hp n hn (o ++ zfu c f p n) (by rw [List.length_append]; omega)
   have hs : zfu c f p (n + 1) = zfu c f p n ++ zez c f p n 16 := zaN _ _
   rw [hs, ← List.append_assoc, ← this, zdE]
   simp only [zdO, zds, zQ hn, cnT])
  have h0 : o ++ zfu c f p 0 = o := by unfold zfu; rw [zcd, List.append_nil]
  rw [h0] at hl
  refine hl.trans ?_
  show zbM _ _ _ _ _ = _
  rw [zdE]
  simp only [zdO, zds, zR (Nat.le_refl _), cnF, zi p (show p < 4611686018427387904 by unfold nP at hp; omega)]
 have hl := zz (n := nP c) (f := fun (p : Nat) (o : List Problem) => zbM c L (mk (nW c) f) out (.l0 (p : Int) o)) (S := fun p => out ++ zcR c f p) (fun p hp => by
  show zbM _ _ _ _ _ = zbM _ _ _ _ _
  have hnt : z5 (P c p) <= 16 := zaF _ _
  have hnl := zj4 g w f p
  have hpl' : p < L.partitions.length := by rw [hpl]; exact hp
  have hat : zb L.partitions p = full c p := by rw [hL.parts, zjw hp, if_pos hp]
  have := mid p hp (out ++ zcR c f p) (by rw [List.length_append]; unfold nP at hp; omega)
  have hs : zcR c f (p + 1) = zcR c f p ++ zfu c f p (1 + z5 (P c p)) := zaN _ _
  have htl : (full c p).tables.length = z5 (P c p) := zdI _ _
  rw [hs, ← List.append_assoc, ← this, zdE]
  simp only [zdO, zQ hpl', cnT, zm hpl', zW, hat, htl, List.length_singleton, zaO (show (1 + z5 (P c p)) * 8 <= 140737488355328 by omega)]
  rfl)
 unfold zw3 zof
 rw [k2', cnT]
 have h0 : out ++ zcR c f 0 = out := by unfold zcR; rw [zcd, List.append_nil]
 rw [h0] at hl
 refine hl.trans ?_
 show zbM _ _ _ _ _ = _
 rw [zdE]
 simp only [zdO, hpl, zR (Nat.le_refl _), cnF, id]
end
noncomputable def zoR (c : Config) (f : Nat -> Int) (p : Nat) : List Problem := zb2 f (p : Int) (pAt c p) 1 ++ stP c f p (pAt c p + 19)
noncomputable def zlc (c : Config) (f : Nat -> Int) (k : Nat) : List Problem := zb2 f ((16 + k : Nat) : Int) (cAt c k) (c.cores.length : Int) ++ (zc8 c f k ++ zbn c f k (dl c k).length)
noncomputable def zar (c : Config) (f : Nat -> Int) (n : Nat) : List Problem := zdW (zoR c f) n
noncomputable def zbb (c : Config) (f : Nat -> Int) (n : Nat) : List Problem := (List.range n).flatMap (zlc c f)
theorem zfH (c : Config) (f : Nat -> Int) (n : Nat) : zbb c f (n + 1) = zbb c f n ++ zlc c f n := zaN (zlc c f) n
theorem zdb (f : Nat -> Int) (i : Int) (a : Nat) (m : Int) : (zb2 f i a m).length <= 1 := by
 unfold zb2; cases decide (u32.wrap (f a - f (a + 1)) > m) <;> simp
theorem zHx (c : Config) (f : Nat -> Int) (p a : Nat) : (stP c f p a).length <= 1 := by
 unfold stP; cases (List.range 5).find? fun i => decide (f (a + i) > zgj c p i) <;> simp
theorem zAI (c : Config) (f : Nat -> Int) (a : Nat) : (zbz c f a).length <= 1 := by
 unfold zbz; cases (decide (f a > (c.cores.length : Int)) || decide (f (a + 1) > 1073741824)) <;> simp
theorem zvd (c : Config) (f : Nat -> Int) (n : Nat) : (zar c f n).length <= n * 2 := zdi (fun p => by
 have h1 := zdb f (p : Int) (pAt c p) 1
 have h2 := zHx c f p (pAt c p + 19)
 unfold zoR; rw [List.length_append]; omega) n
theorem zld {c : Config} (g : zan c) (f : Nat -> Int) : ∀ n, n <= nC c -> (zbb c f n).length <= n * 6
 | 0, _ => by simp [zbb]
 | n + 1, h => by
  have h0 := zld g f n (by omega)
  have h1 := zdb f ((16 + n : Nat) : Int) (cAt c n) (c.cores.length : Int)
  have h2 := zns c f n
  have h3 := zgx c f n (dl c n).length
  have h4 := (zn8 g (show n < nC c by omega)).2
  have h5 : (zlc c f n).length <= 6 := by unfold zlc; rw [List.length_append, List.length_append]; omega
  rw [zfH, List.length_append, Nat.add_mul]; omega
noncomputable def zzu (c : Config) (f : Nat -> Int) : List Problem := zbz c f (16 * K0 c) ++ zar c f (nP c) ++ zbb c f (nC c) ++ zcR c f (nP c)
section
variable {c : Config} (g : zan c) (w : zpX c) (mo : zDT c) {f : Nat -> Int}
include g w mo
theorem zem {p k : Nat} (hp : p <= nP c) (hk : k <= nC c) : (zbz c f (16 * K0 c) ++ zar c f p ++ zbb c f k).length <= 200 := by
 have h1 := zAI c f (16 * K0 c)
 have h2 := zvd c f p
 have h3 := zld g f k hk
 have h4 : nP c <= 8 := g.few.parts
 have h5 : nC c <= 16 := g.chans
 rw [List.length_append, List.length_append]; omega
theorem zoK {p : Nat} (hp : p <= nP c) : (zbz c f (16 * K0 c) ++ zar c f p).length <= 200 := by
 have := zem g w mo (f := f) hp (Nat.zero_le _)
 rw [List.length_append] at this
 omega
theorem zJQ {a : Nat} (ha : a + 1 < nW c) : zCh (mk (nW c) f) (a : Int) = u32.wrap (f a - f (a + 1)) /\ zuo (mk (nW c) f) (a : Int) = true := by
 have hN := (zfe g w).2
 have e1 : i64.wrap ((a : Int) + 1) = ((a + 1 : Nat) : Int) := zi a (by omega)
 refine zw (?_ : zwZ (mk (nW c) f) (a : Int) = some (u32.wrap (f a - f (a + 1))))
 unfold zwZ zsy
 rw [zM, zm (show a < nW c by omega), e1, zm ha, zW, zW, zap ha, zap (show a < nW c by omega)]; rfl
theorem zHC (hf : U32 f) {p a : Nat} (hp : p < nP c) (ha : a + 5 <= nW c) : zw0 c (p : Int) (a : Int) (mk (nW c) f) = some (match (List.range 5).find? fun i => decide (f (a + i) > zgj c p i) with
 | some i => ((a + i : Nat) : Int)
 | none => -1) := by
 have hN := (zfe g w).2
 have hl5 := zgs (l := List.range 5) (f := fun i => zwN c (p : Int) (a : Int) (mk (nW c) f) (.l0 (i : Int))) (q := fun i => decide (f (a + i) > zgj c p i)) (g := fun i => some ((a + i : Nat) : Int)) (e := some (-1)) (fun i hi => by
  rw [List.length_range] at hi
  rw [List.getElem_range]
  have e1 : i64.wrap ((a : Int) + (i : Int)) = ((a + i : Nat) : Int) := zo _ _ (by omega) (by omega)
  rw [zt3]
  simp only [zhD, show decide ((i : Int) < 5) = true from decide_eq_true (by omega), cnT, show zN (i : Int) 5 = true from zm hi, e1, zM, zm (show a + i < nW c by omega), zW, zap (show a + i < nW c by omega), hf.w64, zi i (show i < 4611686018427387904 by omega), id]
  rfl) (by
  rw [List.length_range, zt3]
  simp only [zhD, show decide (((5 : Nat) : Int) < 5) = false from rfl, cnF, id])
 unfold zw0 zoe
 rw [show zN (p : Int) c.partitions.length = true from zm hp, cnT]
 refine hl5.trans ?_
 cases (List.range 5).find? fun i => decide (f (a + i) > zgj c p i) <;> rfl
theorem zBD (hc : zbu c) (hv : zaL c = true) (hf : U32 f) : zpu c (mk (nW c) f) = some (zzu c f, 0) := by
 have hN := (zfe g w).2
 have hP : nP c <= 8 := g.few.parts
 have hC : nC c <= 16 := g.chans
 have hbar := zAJ g w
 have hco := mo.cores
 obtain ⟨t1, t2⟩ := zw (zBj hc (m := mk (nW c) f))
 have t1' : zvl c (mk (nW c) f) = true := t1.trans (by rw [hv, zM, decide_eq_true rfl]; rfl)
 have t2' : znk c (mk (nW c) f) = true := t2
 obtain ⟨L, hL0, hL⟩ := zTi g w.kernel
 obtain ⟨o1, o2⟩ := zw hL0
 have o1' : zal c = (L, 0) := o1
 have o2' : zkF c = true := o2
 have hpl : L.partitions.length = nP c := by rw [hL.parts, zgw]
 have em : u32.wrap (c.cores.length : Int) = (c.cores.length : Int) := zd9 (by omega) (by omega)
 -- partitions
 have e19 : ∀ (p : Nat) (o : List Problem), p <= 1000 -> zaS c (mk (nW c) f) (.l19 (p : Int) o) = zaS c (mk (nW c) f) (.l0 ((p + 1 : Nat) : Int) o) := fun p o hp => by
  rw [zbo]
  simp only [zcK, zi p (show p < 4611686018427387904 by omega)]
 have pl := zz (n := nP c) (f := fun (p : Nat) (o : List Problem) => zaS c (mk (nW c) f) (.l0 (p : Int) o)) (S := fun p => zbz c f (16 * K0 c) ++ zar c f p) (fun p hp => by
  show zaS _ _ _ = zaS _ _ _
  have hpa := zwq g w hp
  have hpl' : p < L.partitions.length := by rw [hpl]; exact hp
  have hpc : p < c.partitions.length := hp
  have hat : zb L.partitions p = full c p := by rw [hL.parts, zjw hp, if_pos hp]
  have hlk : (full c p).lock = ((pAt c p : Nat) : Int) := rfl
  have hst : (full c p).state = ((pAt c p + 19 : Nat) : Int) := rfl
  obtain ⟨u1, u2⟩ := zJQ g w mo (f := f) (a := pAt c p) (by omega)
  obtain ⟨s1, s2⟩ := zw (zHC g w mo hf hp (a := pAt c p + 19) (by omega))
  have s1' : zCi c (p : Int) ((pAt c p + 19 : Nat) : Int) (mk (nW c) f) = _ := s1
  have s2' : zxG c (p : Int) ((pAt c p + 19 : Nat) : Int) (mk (nW c) f) = true := s2
  have hl0 := zoK g w mo (f := f) (Nat.le_of_lt hp)
  generalize ho : zbz c f (16 * K0 c) ++ zar c f p = o at hl0
  have step27 : ∀ (o2 : List Problem) (x y z u v : Int) (l : List Int), o2.length <= 300 -> zaS c (mk (nW c) f) (.l27 (p : Int) o2 x y ((pAt c p + 19 : Nat) : Int) u l) = zaS c (mk (nW c) f) (.l0 ((p + 1 : Nat) : Int) (o2 ++ stP c f p (pAt c p + 19))) := fun o2 x y z u v l ho2 => by
   rw [zbo]
   simp only [zcK, s1', s2', cnT, List.length_singleton, zaO (show (o2.length + 1) * 24 <= 140737488355328 by omega), e19 p _ (show p <= 1000 by omega)]
   unfold stP
   cases (List.range 5).find? fun i => decide (f (pAt c p + 19 + i) > zgj c p i) with
   | none =>
    show cond (decide ((-1 : Int) >= 0)) _ _ = _
    rw [decide_eq_false (by omega), List.append_nil]; rfl
   | some i =>
    show cond (decide (((pAt c p + 19 + i : Nat) : Int) >= 0)) _ _ = _
    rw [decide_eq_true (by omega)]; rfl
  have hs : zbz c f (16 * K0 c) ++ zar c f (p + 1) = o ++ zb2 f (p : Int) (pAt c p) 1 ++ stP c f p (pAt c p + 19) := by
   have : zar c f (p + 1) = zar c f p ++ zoR c f p := zaN _ _
   rw [this, ← List.append_assoc, ho, zoR, ← List.append_assoc]
  have hlk1 := zdb f (p : Int) (pAt c p) 1
  rw [hs, ← step27 (o ++ zb2 f (p : Int) (pAt c p) 1) ((pAt c p : Nat) : Int) ((pAt c p + 2 : Nat) : Int) 0 (full c p).root 0 (full c p).tables (by rw [List.length_append]; omega), zbo]
  simp only [zcK, zW, o1', zQ hpc, cnT, zm hpl', hat, hlk, u1, u2, List.length_singleton, zaO (show (o.length + 1) * 24 <= 140737488355328 by omega), hst]
  unfold zb2
  cases decide (u32.wrap (f (pAt c p) - f (pAt c p + 1)) > 1) with
  | true => rfl
  | false => rw [cnF, cnF, List.append_nil]; rfl)
 -- channels
 have e53 : ∀ (k j : Nat) (o : List Problem) (x y z u : Int) (l : List DestPlace), j <= 1000 -> zaS c (mk (nW c) f) (.l53 (k : Int) (j : Int) o x y z u l) = zaS c (mk (nW c) f) (.l8 (k : Int) ((j + 1 : Nat) : Int) o x y z u l) := fun k j o x y z u l hj => by
  rw [zbo]
  simp only [zcK, zi j (show j < 4611686018427387904 by omega)]
 have e49 : ∀ (k : Nat) (o : List Problem) (x y z u : Int) (l : List DestPlace), zaS c (mk (nW c) f) (.l49 (k : Int) o x y z u l) = zaS c (mk (nW c) f) (.l8 (k : Int) 0 o x y z u l) := fun k o x y z u l => by
  rw [zbo]; rfl
 have cl := zz (n := nC c) (f := fun (k : Nat) (o : List Problem) => zaS c (mk (nW c) f) (.l4 (k : Int) o)) (S := fun k => zbz c f (16 * K0 c) ++ zar c f (nP c) ++ zbb c f k) (fun k hk => by
  show zaS _ _ _ = zaS _ _ _
  have hkc : k < c.channels.length := hk
  have hkL : k < L.channels.length := by rw [hL.len]; exact hk
  have hch : zb9 (Ch c k) := (g.chan k hk).1
  have hcl := zkR g w hk
  have hlk := hL.lock k hk
  have hst := hL.stage k hk
  have hde := hL.dests k hk
  have hdl : (zao (prt (Ch c k)) (dAt c k) (dl c k)).length = (dl c k).length := zdQ _ _ _
  have hd4 := (zn8 g hk).2
  obtain ⟨u1, u2⟩ := zJQ g w mo (f := f) (a := cAt c k) (by omega)
  obtain ⟨s1, s2⟩ := zw (zCP hf hN hch (a := cAt c k + 2) (by omega))
  have s1' : zG6 (zn c.channels k) (mk (nW c) f) ((cAt c k + 2 : Nat) : Int) = _ := s1
  have s2' : zxH (zn c.channels k) (mk (nW c) f) ((cAt c k + 2 : Nat) : Int) = true := s2
  have hl0 := zem g w mo (f := f) (Nat.le_refl (nP c)) (Nat.le_of_lt hk)
  generalize ho : zbz c f (16 * K0 c) ++ zar c f (nP c) ++ zbb c f k = o at hl0
  have hat : ∀ j, j < (dl c k).length -> (zbe (zao (prt (Ch c k)) (dAt c k) (dl c k)) j).at_ = ((dAt c k + j * prt (Ch c k) : Nat) : Int) := fun j hj => by rw [zfM _ _ _ _ hj]
  have step8 : ∀ (o2 : List Problem) (x y z u : Int), o2.length <= 400 -> zaS c (mk (nW c) f) (.l8 (k : Int) 0 o2 x y z u (zao (prt (Ch c k)) (dAt c k) (dl c k))) = zaS c (mk (nW c) f) (.l4 ((k + 1 : Nat) : Int) (o2 ++ zbn c f k (dl c k).length)) := fun o2 x y z u ho2 => by
   have hl := zz (n := (dl c k).length) (f := fun (j : Nat) (o3 : List Problem) => zaS c (mk (nW c) f) (.l8 (k : Int) (j : Int) o3 x y z u (zao (prt (Ch c k)) (dAt c k) (dl c k)))) (S := fun j => o2 ++ zbn c f k j) (fun j hj => by
    show zaS _ _ _ = zaS _ _ _
    have hpb := zp4 g w hk hj
    obtain ⟨q1, q2⟩ := zw (zB2 hf hN hch (a := dAt c k + j * prt (Ch c k)) hpb)
    have q1' : zG7 (zn c.channels k) (mk (nW c) f) ((dAt c k + j * prt (Ch c k) : Nat) : Int) = _ := q1
    have q2' : zxI (zn c.channels k) (mk (nW c) f) ((dAt c k + j * prt (Ch c k) : Nat) : Int) = true := q2
    have hpl := zgx c f k j
    rw [zbo]
    simp only [zcK, zW, hdl, zQ hj, cnT, zm hkc, zm hj, hat j hj, q1', q2', List.length_singleton, zaO (show ((o2 ++ zbn c f k j).length + 1) * 24 <= 140737488355328 by rw [List.length_append]; omega), e53 k j _ _ _ _ _ _ (show j <= 1000 by omega), ze6]
    unfold zve
    cases ptB (Ch c k) fun i => f (dAt c k + j * prt (Ch c k) + i) with
    | true => simp
    | false => simp [List.append_assoc])
   have h0 : o2 ++ zbn c f k 0 = o2 := by simp [zbn]
   rw [h0] at hl
   refine hl.trans ?_
   show zaS _ _ _ = _
   rw [zbo]
   simp only [zcK, hdl, zR (Nat.le_refl _), cnF, zi k (show k < 4611686018427387904 by omega)]
  have step45 : ∀ (o2 : List Problem) (x u v : Int), o2.length <= 300 -> zaS c (mk (nW c) f) (.l45 (k : Int) o2 x ((cAt c k + 2 : Nat) : Int) u v (zao (prt (Ch c k)) (dAt c k) (dl c k))) = zaS c (mk (nW c) f) (.l4 ((k + 1 : Nat) : Int) (o2 ++ zc8 c f k ++ zbn c f k (dl c k).length)) := fun o2 x u v ho2 => by
   have hsl := zns c f k
   rw [← step8 (o2 ++ zc8 c f k) x ((cAt c k + 2 : Nat) : Int) u v (by rw [List.length_append]; omega), zbo]
   simp only [zcK, zW, zm hkc, cnT, s1', s2', List.length_singleton, zaO (show (o2.length + 1) * 24 <= 140737488355328 by omega), e49]
   unfold zc8
   cases stB (Ch c k) fun i => f (cAt c k + 2 + i) with
   | true => simp
   | false => rfl
  have e16 : i64.wrap (16 + (k : Int)) = ((16 + k : Nat) : Int) := zo _ _ (by omega) (by omega)
  have hs : zbz c f (16 * K0 c) ++ zar c f (nP c) ++ zbb c f (k + 1) = o ++ zb2 f ((16 + k : Nat) : Int) (cAt c k) (c.cores.length : Int) ++ zc8 c f k ++ zbn c f k (dl c k).length := by
   rw [zfH, ← List.append_assoc, ho, zlc, ← List.append_assoc, ← List.append_assoc]
  have hlk1 := zdb f ((16 + k : Nat) : Int) (cAt c k) (c.cores.length : Int)
  rw [hs, ← step45 (o ++ zb2 f ((16 + k : Nat) : Int) (cAt c k) (c.cores.length : Int)) ((cAt c k : Nat) : Int) (ze L.channels k).partition (ze L.channels k).port (by rw [List.length_append]; omega), zbo]
  simp only [zcK, zW, o1', zQ hkc, cnT, zm hkL, hlk, hst, hde, u1, u2, em, e16, List.length_singleton, zaO (show (o.length + 1) * 24 <= 140737488355328 by omega)]
  unfold zb2
  cases decide (u32.wrap (f (cAt c k) - f (cAt c k + 1)) > (c.cores.length : Int)) with
  | true => rfl
  | false => rw [cnF, cnF, List.append_nil])
 -- all
 have hl2 := zem g w mo (f := f) (Nat.le_refl (nP c)) (Nat.le_refl (nC c))
 obtain ⟨x1, x2⟩ := zw (zCV g w hL hc hv (f := f) (out := zbz c f (16 * K0 c) ++ zar c f (nP c) ++ zbb c f (nC c)) (by omega))
 have x1' : zG8 c L (mk (nW c) f) (zbz c f (16 * K0 c) ++ zar c f (nP c) ++ zbb c f (nC c)) = _ := x1
 have x2' : zxJ c L (mk (nW c) f) (zbz c f (16 * K0 c) ++ zar c f (nP c) ++ zbb c f (nC c)) = true := x2
 have fin : zaS c (mk (nW c) f) (.l15 (zbz c f (16 * K0 c))) = some (zzu c f, 0) := by
  rw [zbo]
  have h0 : zbz c f (16 * K0 c) ++ zar c f 0 = zbz c f (16 * K0 c) := by unfold zar; rw [zcd, List.append_nil]
  rw [h0] at pl
  refine Eq.trans pl ?_
  show zaS _ _ _ = _
  rw [zbo]
  simp only [zcK, show decide (((nP c : Nat) : Int) < (c.partitions.length : Int)) = false from zR (Nat.le_refl _), cnF]
  have h1 : zbz c f (16 * K0 c) ++ zar c f (nP c) ++ zbb c f 0 = zbz c f (16 * K0 c) ++ zar c f (nP c) := by simp [zbb]
  rw [h1] at cl
  refine Eq.trans cl ?_
  show zaS _ _ _ = _
  rw [zbo]
  simp only [zcK, show decide (((nC c : Nat) : Int) < (c.channels.length : Int)) = false from zR (Nat.le_refl _), cnF, o1', x1', x2', cnT, id]
  rfl
 have e1 : i64.wrap (((16 * K0 c : Nat) : Int) + 1) = ((16 * K0 c + 1 : Nat) : Int) := zi _ (by omega)
 unfold zpu zlw
 rw [t1', t2', o1', o2', cnT, Bool.not_true, cnF, cnT]
 show cond (zN L.barrier (mk (nW c) f).length) (cond (decide (i64.wrap (zx (mk (nW c) f) L.barrier.toNat) > (c.cores.length : Int))) (cond (leB ((([] : List Problem).length + [(⟨4, (-1), L.barrier⟩ : Problem)].length) * 24) 140737488355328) (zaS c (mk (nW c) f) (.l15 ([] ++ [⟨4, (-1), L.barrier⟩]))) none) (cond (zN (i64.wrap (L.barrier + 1)) (mk (nW c) f).length) (cond (decide (i64.wrap (zx (mk (nW c) f) (i64.wrap (L.barrier + 1)).toNat) > 1073741824)) (cond (leB ((([] : List Problem).length + [(⟨4, (-1), L.barrier⟩ : Problem)].length) * 24) 140737488355328) (zaS c (mk (nW c) f) (.l15 ([] ++ [⟨4, (-1), L.barrier⟩]))) none) (zaS c (mk (nW c) f) (.l15 []))) none)) none = _
 rw [hL.bar, e1, zM, zm (show 16 * K0 c < nW c by omega), zm (show 16 * K0 c + 1 < nW c by omega), zW, zW, zap (show 16 * K0 c < nW c by omega), zap (show 16 * K0 c + 1 < nW c by omega), hf.w64, hf.w64, zaO (by simp)]
 rw [← fin]
 unfold zbz
 cases decide (f (16 * K0 c) > (c.cores.length : Int)) with
 | true => rfl
 | false =>
  cases decide (f (16 * K0 c + 1) > 1073741824) with
  | true => rfl
  | false => rfl
end
theorem zpL {c : Config} (hc : zbu c) {m : MemMemory} (hm : m.words.length <= 100000) (hm16 : m.words.length % 16 = 0) : zpw c [some m] = some (cond (zaL c && decide (m.words.length = nW c)) 0 1) := by
 obtain ⟨k1, k2⟩ := zgo (zIs hc)
 have k1' : zxQ c = true := k1
 have k2' : ((zz6 c).1 == 0) = zaL c := k2
 have i1 : zxA [some m] = some (-1) := by
  show zpt [some m] (.l0 0) = _
  rw [zmQ]
  show zpt [some m] (.l0 (i64.wrap (0 + 1))) = _
  rw [show i64.wrap (0 + 1) = 1 from rfl, zmQ]
  rfl
 obtain ⟨j1, j2⟩ := zw i1
 have j1' : zCs [some m] = -1 := j1
 have j2' : zuu [some m] = true := j2
 have m1 : zpx [some m] = some false := by
  unfold zpx zoo
  rw [j1', j2']; rfl
 obtain ⟨n1, n2⟩ := zw m1
 have n1' : zCk [some m] = false := n1
 have n2' : zup [some m] = true := n2
 have fr : zpy (some m) = some ((m.words.length / 16 : Nat) : Int) := by
  unfold zpy zoq
  show some (bop .quo .i64 (m.words.length : Int) 16) = _
  rw [zch _ (by omega)]
 obtain ⟨p1, p2⟩ := zw fr
 have p1' : zvp (some m) = _ := p1
 have p2' : zgg (some m) = true := p2
 unfold zpw zl1
 rw [n1', n2', cnT, cnF, k1', cnT, k2']
 cases hv : zaL c with
 | false => rfl
 | true =>
 obtain ⟨g, w⟩ := zkH hc hv
 obtain ⟨w1, w2⟩ := zml g w.kernel
 have cm : ((((m.words.length / 16 : Nat)) : Int) == c.frames) = decide (m.words.length = nW c) := by rw [Bool.eq_iff_iff, beq_iff_eq, decide_eq_true_eq]; omega
 rw [Bool.not_true, cnF, zt2]
 show cond (zgg (some m)) (cond (!(zvp (some m) == c.frames)) (some 1) (zwM c [some m] (.l0 (i64.wrap (0 + 1))))) none = _
 rw [p1', p2', cm, cnT, Bool.true_and]
 cases decide (m.words.length = nW c) with
 | false => rfl
 | true =>
 rw [Bool.not_true, cnF, show i64.wrap (0 + 1) = 1 from rfl, zt2]
 rfl
theorem zuy {c : Config} : zpw c [none] = some 3 := by
 have i1 : zxA [none] = some 0 := by
  show zpt [none] (.l0 0) = _
  rw [zmQ]; rfl
 obtain ⟨j1, j2⟩ := zw i1
 have j1' : zCs [none] = 0 := j1
 have j2' : zuu [none] = true := j2
 have m1 : zpx [none] = some true := by
  unfold zpx zoo
  rw [j1', j2']; rfl
 obtain ⟨n1, n2⟩ := zw m1
 have n1' : zCk [none] = true := n1
 have n2' : zup [none] = true := n2
 unfold zpw zl1
 rw [n1', n2']
 rfl
theorem zva {c : Config} : zkB c none = some ([], 3) := by
 obtain ⟨k1, k2⟩ := zw (zuy (c := c))
 have k1' : zvn c [none] = 3 := k1
 have k2' : zpF c [none] = true := k2
 unfold zkB zke
 rw [k1', k2']
 rfl
section
variable {c : Config} (g : zan c) (w : zpX c) (mo : zDT c) {f : Nat -> Int}
include g w mo
theorem zBC (hc : zbu c) (hv : zaL c = true) (hf : U32 f) : zkB c (some ⟨mk (nW c) f⟩) = some (zzu c f, 0) := by
 have hN := (zfe g w).2
 have hP : nP c <= 8 := g.few.parts
 have hC : nC c <= 16 := g.chans
 have hbar := zAJ g w
 have hco := mo.cores
 have hfr := g.frames
 have h16 : nW c % 16 = 0 := by unfold nW; omega
 obtain ⟨t1, t2⟩ := zw (zpL hc (m := ⟨mk (nW c) f⟩) (by rw [zM]; omega) (by rw [zM]; exact h16))
 have t1' : zvn c [some ⟨mk (nW c) f⟩] = 0 := t1.trans (by rw [hv, zM, decide_eq_true rfl]; rfl)
 have t2' : zpF c [some ⟨mk (nW c) f⟩] = true := t2
 obtain ⟨o1, o2⟩ := zw (zJL g w.kernel)
 have o1' : zdB c = (lay c, 0) := o1
 have o2' : znm c = true := o2
 have hL := zBq c
 generalize lay c = L at o1' hL
 have hpl : L.partitions.length = nP c := by rw [hL.parts, zgw]
 have pl := zz (n := nP c) (f := fun (p : Nat) (o : List Problem) => zdC c (some ⟨mk (nW c) f⟩) (.l0 (p : Int) c.frames c.major c.kernel c.room c.cores c.partitions c.channels L.barrier L.partitions L.channels L.end_ (some ⟨mk (nW c) f⟩) o)) (S := fun p => zbz c f (16 * K0 c) ++ zar c f p) (fun p hp => by
  show zdC _ _ _ = zdC _ _ _
  have hpa := zwq g w hp
  have hpl' : p < L.partitions.length := by rw [hpl]; exact hp
  have hpc : p < c.partitions.length := hp
  have hat : zb L.partitions p = full c p := by rw [hL.parts, zjw hp, if_pos hp]
  have hlk : (zb L.partitions p).lock = ((pAt c p : Nat) : Int) := by rw [hat]; rfl
  have hst : (zb L.partitions p).state = ((pAt c p + 19 : Nat) : Int) := by rw [hat]; rfl
  have hl0 := zoK g w mo (f := f) (Nat.le_of_lt hp)
  generalize ho : zbz c f (16 * K0 c) ++ zar c f p = o at hl0
  have hlk1 := zdb f (p : Int) (pAt c p) 1
  obtain ⟨u1, u2⟩ := zw (zBt (c := c) (L := L) (f := f) (out := o) hN (a := pAt c p) (by omega) (by omega) (p : Int) (most := 1) (by omega))
  have u1' : zft (p : Int) ((pAt c p : Nat) : Int) 1 c L (some ⟨mk (nW c) f⟩) o = _ := u1
  have u2' : zpG (p : Int) ((pAt c p : Nat) : Int) 1 c L (some ⟨mk (nW c) f⟩) o = true := u2
  obtain ⟨s1, s2⟩ := zw (zHB (c := c) (L := L) (f := f) (out := o ++ zb2 f (p : Int) (pAt c p) 1) hN hp hpl' mo (a := pAt c p + 19) hst (by omega) (by rw [List.length_append]; omega))
  have s1' : zgK (p : Int) c L (some ⟨mk (nW c) f⟩) (o ++ zb2 f (p : Int) (pAt c p) 1) = _ := s1
  have s2' : zxL (p : Int) c L (some ⟨mk (nW c) f⟩) (o ++ zb2 f (p : Int) (pAt c p) 1) = true := s2
  have hs : zbz c f (16 * K0 c) ++ zar c f (p + 1) = o ++ zb2 f (p : Int) (pAt c p) 1 ++ stP c f p (pAt c p + 19) := by
   have : zar c f (p + 1) = zar c f p ++ zoR c f p := zaN _ _
   rw [this, ← List.append_assoc, ho, zoR, ← List.append_assoc]
  rw [hs, zdD]
  simp only [zdN, zW, zQ hpc, cnT, zm hpl', hlk, u1', u2', s1', s2', zi p (show p < 4611686018427387904 by omega)])
 have cl := zz (n := nC c) (f := fun (k : Nat) (o : List Problem) => zdC c (some ⟨mk (nW c) f⟩) (.l4 (k : Int) c.frames c.major c.kernel c.room c.cores c.partitions c.channels L.barrier L.partitions L.channels L.end_ (some ⟨mk (nW c) f⟩) o)) (S := fun k => zbz c f (16 * K0 c) ++ zar c f (nP c) ++ zbb c f k) (fun k hk => by
  show zdC _ _ _ = zdC _ _ _
  have hkc : k < c.channels.length := hk
  have hkL : k < L.channels.length := by rw [hL.len]; exact hk
  have hcl := zkR g w hk
  have hlk := hL.lock k hk
  have hd4 := (zn8 g hk).2
  have hl0 := zem g w mo (f := f) (Nat.le_refl (nP c)) (Nat.le_of_lt hk)
  generalize ho : zbz c f (16 * K0 c) ++ zar c f (nP c) ++ zbb c f k = o at hl0
  have e16 : i64.wrap (16 + (k : Int)) = ((16 + k : Nat) : Int) := zo _ _ (by omega) (by omega)
  have hlk1 := zdb f ((16 + k : Nat) : Int) (cAt c k) (c.cores.length : Int)
  have hs0 : 2 <= cAt c k + 2 + stg (Ch c k) := by omega
  obtain ⟨u1, u2⟩ := zw (zBt (c := c) (L := L) (f := f) (out := o) hN (a := cAt c k) (by omega) (by omega) ((16 + k : Nat) : Int) (most := (c.cores.length : Int)) (by omega))
  have u1' : zft ((16 + k : Nat) : Int) ((cAt c k : Nat) : Int) (c.cores.length : Int) c L (some ⟨mk (nW c) f⟩) o = _ := u1
  have u2' : zpG ((16 + k : Nat) : Int) ((cAt c k : Nat) : Int) (c.cores.length : Int) c L (some ⟨mk (nW c) f⟩) o = true := u2
  obtain ⟨s1, s2⟩ := zw (zzz g w hL hf hk (out := o ++ zb2 f ((16 + k : Nat) : Int) (cAt c k) (c.cores.length : Int)) (by rw [List.length_append]; omega) (by omega))
  have s1' : zgL (k : Int) c L (some ⟨mk (nW c) f⟩) (o ++ zb2 f ((16 + k : Nat) : Int) (cAt c k) (c.cores.length : Int)) = _ := s1
  have s2' : zxM (k : Int) c L (some ⟨mk (nW c) f⟩) (o ++ zb2 f ((16 + k : Nat) : Int) (cAt c k) (c.cores.length : Int)) = true := s2
  have hs : zbz c f (16 * K0 c) ++ zar c f (nP c) ++ zbb c f (k + 1) = o ++ zb2 f ((16 + k : Nat) : Int) (cAt c k) (c.cores.length : Int) ++ zc8 c f k ++ zbn c f k (dl c k).length := by
   rw [zfH, ← List.append_assoc, ho, zlc, ← List.append_assoc, ← List.append_assoc]
  rw [hs, zdD]
  simp only [zdN, zW, zQ hkc, cnT, zm hkL, hlk, e16, u1', u2', s1', s2', zi k (show k < 4611686018427387904 by omega)])
 have hl2 := zem g w mo (f := f) (Nat.le_refl (nP c)) (Nat.le_refl (nC c))
 generalize ho : zbz c f (16 * K0 c) ++ zar c f (nP c) ++ zbb c f (nC c) = o at hl2
 have tl := zz (n := nP c) (f := fun (p : Nat) (o : List Problem) => zdC c (some ⟨mk (nW c) f⟩) (.l8 (p : Int) c.frames c.major c.kernel c.room c.cores c.partitions c.channels L.barrier L.partitions L.channels L.end_ (some ⟨mk (nW c) f⟩) o)) (S := fun p => o ++ zcR c f p) (fun p hp => by
  show zdC _ _ _ = zdC _ _ _
  have hpc : p < c.partitions.length := hp
  have htl := zj4 g w f p
  obtain ⟨s1, s2⟩ := zw (zCU g w hL (f := f) hp (out := o ++ zcR c f p) (by rw [List.length_append]; omega))
  have s1' : zgM (p : Int) c L (some ⟨mk (nW c) f⟩) (o ++ zcR c f p) = _ := s1
  have s2' : zxN (p : Int) c L (some ⟨mk (nW c) f⟩) (o ++ zcR c f p) = true := s2
  have hs : zcR c f (p + 1) = zcR c f p ++ zfu c f p (1 + z5 (P c p)) := zaN _ _
  rw [hs, ← List.append_assoc, zdD]
  simp only [zdN, zQ hpc, cnT, s1', s2', zi p (show p < 4611686018427387904 by omega)])
 obtain ⟨b1, b2⟩ := zw (zQw (c := c) (L := L) (f := f) (out := []) hN (a := 16 * K0 c) (by omega) hL.bar hco (by simp))
 have b1' : zgJ c L (some ⟨mk (nW c) f⟩) [] = ⟨c, L, some ⟨mk (nW c) f⟩, zbz c f (16 * K0 c)⟩ := b1
 have b2' : zxK c L (some ⟨mk (nW c) f⟩) [] = true := b2
 unfold zkB zke
 rw [t1', t2', o2', cnT, show ((0 : Int) == 0) = true from rfl, Bool.not_true, cnF, cnT, zdD]
 simp only [zdN, o1', b1', b2', cnT]
 have h0 : zbz c f (16 * K0 c) ++ zar c f 0 = zbz c f (16 * K0 c) := by unfold zar; rw [zcd, List.append_nil]
 rw [h0] at pl
 refine Eq.trans pl ?_
 show zdC _ _ _ = _
 rw [zdD]
 simp only [zdN, show decide (((nP c : Nat) : Int) < (c.partitions.length : Int)) = false from zR (Nat.le_refl _), cnF]
 have h1 : zbz c f (16 * K0 c) ++ zar c f (nP c) ++ zbb c f 0 = zbz c f (16 * K0 c) ++ zar c f (nP c) := by simp [zbb]
 rw [h1] at cl
 refine Eq.trans cl ?_
 show zdC _ _ _ = _
 rw [zdD]
 simp only [zdN, show decide (((nC c : Nat) : Int) < (c.channels.length : Int)) = false from zR (Nat.le_refl _), cnF]
 have h2 : o ++ zcR c f 0 = o := by unfold zcR; rw [zcd, List.append_nil]
 rw [h2, ← ho] at tl
 refine Eq.trans tl ?_
 show zdC _ _ _ = _
 rw [zdD]
 simp only [zdN, show decide (((nP c : Nat) : Int) < (c.partitions.length : Int)) = false from zR (Nat.le_refl _), cnF, id]
 rfl
theorem zAC : (zzu c f).length <= 5000 := by
 have h1 := zem g w mo (f := f) (Nat.le_refl (nP c)) (Nat.le_refl (nC c))
 have h2 := zj4 g w f (nP c)
 have h3 : nP c <= 8 := g.few.parts
 unfold zzu
 rw [List.length_append]; omega
end
theorem ztx {c : Config} (hc : zbu c) {m : List Int} (hm : m.length = nL c) (hw : W32 m) : ∃ (l : List Problem) (e : Int), l.length <= 5000 /\ zpu c m = some (l, e) /\ zkB c (some ⟨m⟩) = some (l, e) := by
 cases hv : zaL c with
 | false =>
  have hm' : m.length = 16 := by rw [hm]; unfold nL; rw [hv]; rfl
  obtain ⟨t1, t2⟩ := zw (zBj hc (m := m))
  have t1' : zvl c m = false := t1.trans (by rw [hv]; rfl)
  have t2' : znk c m = true := t2
  obtain ⟨s1, s2⟩ := zw (zpL hc (m := ⟨m⟩) (by rw [show (⟨m⟩ : MemMemory).words = m from rfl, hm']; decide) (by rw [show (⟨m⟩ : MemMemory).words = m from rfl, hm']))
  have s1' : zvn c [some ⟨m⟩] = 1 := s1.trans (by rw [hv]; rfl)
  have s2' : zpF c [some ⟨m⟩] = true := s2
  refine ⟨[], 1, by simp, ?_, ?_⟩
  . unfold zpu zlw
    rw [t1', t2']; rfl
  . unfold zkB zke
    rw [s1', s2']; rfl
 | true =>
  have hm' : m.length = nW c := by rw [hm]; unfold nL; rw [hv]; rfl
  have hv' := hv
  simp only [zaL, Bool.and_eq_true] at hv'
  have g := zeY hc hv'.1
  have w := zhY g hv'.2
  have mo := zGo hv'.1
  have e := zSv hm'
  refine ⟨zzu c (zx m), 0, zAC g w mo, ?_, ?_⟩
  . have := zBD g w mo hc hv hw
    rwa [← e] at this
  . have := zBC g w mo hc hv hw
    rwa [← e] at this
theorem zOx {l : List Problem} (hl : l.length <= 100000) : zwT l l = some true := by
 have h0 := zz (n := l.length) (f := fun i (_ : Unit) => zwK l l (.l0 (i : Int))) (S := fun _ => ()) (fun i hi => by
  rw [ztZ]
  simp only [zhB, zW, zQ hi, zm hi, cnT, beq_self_eq_true, Bool.and_true, Bool.not_true, cnF, zi i (show i < 4611686018427387904 by omega)])
 unfold zwT zoa
 simp only [beq_self_eq_true, Bool.not_true, cnF]
 refine Eq.trans h0 ?_
 rw [ztZ]
 simp only [zhB, zR (Nat.le_refl _), cnF, id]
theorem zOz {l : List Int} (hl : l.length <= 100000) : zwV l l = some true := by
 have h0 := zz (n := l.length) (f := fun i (_ : Unit) => zwL l l (.l0 (i : Int))) (S := fun _ => ()) (fun i hi => by
  rw [zt1]
  simp only [zhC, zW, zQ hi, zm hi, cnT, beq_self_eq_true, Bool.and_true, Bool.not_true, cnF, zi i (show i < 4611686018427387904 by omega)])
 unfold zwV zoc
 simp only [beq_self_eq_true, Bool.not_true, cnF]
 refine Eq.trans h0 ?_
 rw [zt1]
 simp only [zhC, zR (Nat.le_refl _), cnF, id]
theorem zHt {l : List Problem} (hl : l.length <= 100000) : zxC l = true := by
 have tail : ∀ r i, i + r = 40 -> ∀ o : List Problem, o.length <= 200000 + i -> zt0 l (.l4 (i : Int) o) = some () := by
  intro r
  induction r with
  | zero =>
   intro i hi o ho
   rw [Nat.add_zero] at hi
   subst hi
   rw [zij]
   simp only [zfy, show decide (((40 : Nat) : Int) < 40) = false from rfl, cnF]
  | succ r ih =>
   intro i hi o ho
   rw [zij]
   simp only [zfy, show decide ((i : Int) < 40) = true from decide_eq_true (by omega), cnT, List.length_singleton, zaO (show (o.length + 1) * 24 <= 140737488355328 by omega), zi i (show i < 4611686018427387904 by omega)]
   exact ih (i + 1) (by omega) _ (by rw [List.length_append, List.length_singleton]; omega)
 have head : ∀ r i, ∀ o : List Problem, i + r = o.length -> o.length <= 100000 -> zt0 l (.l0 (i : Int) o) = some () := by
  intro r
  induction r with
  | zero =>
   intro i o hi ho
   rw [zij]
   simp only [zfy, zR (show o.length <= i by omega), cnF]
   exact tail 40 0 (by omega) o (by omega)
  | succ r ih =>
   intro i o hi ho
   have hil : i < o.length := by omega
   rw [zij]
   simp only [zfy, zQ hil, zm hil, cnT, zW, zi i (show i < 4611686018427387904 by omega)]
   exact ih (i + 1) _ (by rw [List.length_set]; omega) (by rw [List.length_set]; exact ho)
 have : zCu l = some () := head l.length 0 l (by omega) hl
 exact (zw this).2
theorem zMG {c : Config} (hc : zbu c) : 0 < nL c /\ nL c <= 16384 /\ nL c % 16 = 0 := by
 unfold nL
 cases hv : zaL c with
 | false => exact ⟨show 0 < 16 by decide, show 16 <= 16384 by decide, show 16 % 16 = 0 by decide⟩
 | true =>
  obtain ⟨g, w⟩ := zkH hc hv
  obtain ⟨w1, w2⟩ := zml g w.kernel
  have hf := g.frames
  refine ⟨?_, w1, ?_⟩
  . show 0 < nW c; omega
  . show nW c % 16 = 0; unfold nW; omega
theorem zGi {c : Config} (hc : zbu c) {turns : List Bulkheadlaw28Turn} (ht : turns.length <= 140737488355328) (hw : ∀ i, i < turns.length -> 0 <= (zad turns i).word /\ (zad turns i).word < 4294967296) : zHh c turns = some true := by
 obtain ⟨m, hm, hm2, hl⟩ := zMC hc ht hw
 obtain ⟨n1, n2, n3⟩ := zMG hc
 have hm16 : m.length <= 16384 := by omega
 have hm0 : m ≠ [] := fun e => by rw [e] at hm; simp at hm; omega
 obtain ⟨a1, a2⟩ := zw hl
 have a1' : sp5 c turns = m := a1
 have a2' : zHm c turns = true := a2
 obtain ⟨l, e, hll, hr, ha⟩ := ztx hc hm hm2
 obtain ⟨b1, b2⟩ := zw hr
 have b1' : zhn c m = (l, e) := b1
 have b2' : zxB c m = true := b2
 obtain ⟨d1, d2⟩ := zw ha
 have d1' : zfs c (some ⟨m⟩) = (l, e) := d1
 have d2' : zkD c (some ⟨m⟩) = true := d2
 obtain ⟨e1, e2⟩ := zw (zuX (l := m) (by omega))
 have e1' : sp8 m = m := e1
 have e2' : zHo m = true := e2
 obtain ⟨f1, f2⟩ := zw (of_a (l := m) (by omega))
 have f1' : sp7 m = (some ⟨m⟩, 0) := f1.trans (by rw [if_neg (by omega), if_neg (by omega), if_neg (by omega)])
 have f2' : zHn m = true := f2
 obtain ⟨g1, g2⟩ := zw (zzB hc)
 have g1' : sp9 c = c := g1
 have g2' : zHp c = true := g2
 obtain ⟨h1, h2⟩ := zw (zOx (l := l) (by omega))
 have h1' : zvk l l = true := h1
 have h2' : znc l l = true := h2
 have i1' := zHt (l := l) (by omega)
 obtain ⟨j1, j2⟩ := zw (zOy hc)
 have j1' : zG4 c c = true := j1
 have j2' : zxD c c = true := j2
 obtain ⟨k1, k2⟩ := zw (zva (c := c))
 have k1' : zfs c none = ([], 3) := k1
 have k2' : zkD c none = true := k2
 obtain ⟨q1, q2⟩ := zw (zv4 hm0 (by omega))
 have q1' : zvm m = m := q1
 have q2' : znl m = true := q2
 have hwd : zwW (some ⟨m⟩) = some m := by
  unfold zwW zss
  show cond (znl m) (some (id (zvm m))) none = _
  rw [q1', q2']; rfl
 obtain ⟨r1, r2⟩ := zw hwd
 have r1' : zCf (some ⟨m⟩) = m := r1
 have r2' : zxF (some ⟨m⟩) = true := r2
 obtain ⟨s1, s2⟩ := zw (zOz (l := m) (by omega))
 have s1' : zG5 m m = true := s1
 have s2' : zxE m m = true := s2
 unfold zHh zA7
 simp only [a1', a2', b1', b2', d1', d2', e1', e2', f1', f2', g1', g2', h1', h2', i1', j1', j2', k1', k2', r1', r2', s1', s2', beq_self_eq_true, Bool.not_true, cnT, cnF, id]
theorem zEZ {n : Int} (h : Fit (.v (.int .u32 n))) : 0 <= n /\ n < 4294967296 := by
 cases h with
 | int _ _ h0 h1 =>
  simp [IntKind.min, IntKind.max, IntKind.signed, IntKind.bits] at h0 h1
  exact ⟨by omega, by omega⟩
theorem zvP {xs : List Bulkheadlaw28Turn} (h : Fit (.sl .sBulkheadlaw28Turn xs)) : ∀ i, i < xs.length -> 0 <= (zad xs i).word /\ (zad xs i).word < 4294967296 := fun i hi => zEZ ((zfR h).2 i 1 hi (by decide))
end Go.Proofs.YtgfifnadfmaolaaGreatDoor
end
