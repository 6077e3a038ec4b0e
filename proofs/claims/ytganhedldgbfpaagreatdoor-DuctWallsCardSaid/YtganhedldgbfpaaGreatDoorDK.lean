import Derived.Test.YtganhedldgbfpaaGreatDoorDG
import Derived.Test.YtganhedldgbfpaaGreatDoorW11
set_option linter.unusedVariables false
set_option linter.unusedSimpArgs false
set_option linter.unusedSectionVars false
noncomputable section
open Go.IntKind (i64 u32)
namespace Go.Proofs.YtganhedldgbfpaaGreatDoor
open Go.RowKit
structure zzB (c : Config) (D : DuctDucts) : Prop where
 frames : D.c.frames = c.frames
 chans : D.c.channels = c.channels
 len : D.c.partitions.length = nP c
 ports : ∀ p, p < nP c -> (za D.c.partitions p).ports = (P c p).ports
 lay : D.lay = lay c
noncomputable def zRr (c : Config) (k : Nat) (f : Nat -> Int) : Nat -> Int := ziB (Ch c k) (sAt c k) (kD c k) (psC c k) f
noncomputable def zaz (c : Config) (f : Nat -> Int) : Nat -> Nat -> Int
 | 0 => f
 | k + 1 => zRr c k (zaz c f k)
section
variable {c : Config} (g : zaC c) (w : zuN c) {D : DuctDucts} (hD : zzB c D)
include g w hD
theorem zvf {k : Nat} (hk : k < nC c) : zx D.lay.channels k = zyC c k /\ D.lay.channels.length = nC c := by
 rw [hD.lay]
 exact ⟨zIC hk, by show (chL c (nC c)).length = _; simp [chL]⟩
theorem zdW {f : Nat -> Int} (hf : U32 f) : zjH (some D) (some ⟨mk (nW c) f⟩) = 0 /\ zkS (some D) (some ⟨mk (nW c) f⟩) = true := by
 have hF := g.frames
 refine zk (?_ : zwN (some D) (some ⟨mk (nW c) f⟩) = some 0)
 obtain ⟨k1, k2⟩ := zk (ztB hf c.frames.toNat (by omega))
 have k1' : zzf (some ⟨mk (nW c) f⟩) = ((c.frames.toNat : Nat) : Int) := k1
 have k2' : zp7 (some ⟨mk (nW c) f⟩) = true := k2
 unfold zwN zth
 have e : ((c.frames.toNat : Nat) : Int) = c.frames := by omega
 simp only [k1', k2', Option.getD_some, Option.isNone_some, Option.isSome_some, hD.frames, e, cnT, cnF, beq_self_eq_true, Bool.not_true, id]
theorem zk9 (p q : Int) : (∃ p' q' : Nat, p = (p' : Int) /\ q = (q' : Int) /\ p' < nP c /\ q' < zL c p' /\ znB (some D) p q = some (Pt c p' q', true)) ∨ znB (some D) p q = some (⟨0, false⟩, false) := by
 unfold znB zot
 simp only [Option.getD_some, Option.isNone_some, Option.isSome_some, cnT, cnF, hD.len, id]
 by_cases c1 : p < 0
 . right; rw [decide_eq_true c1, cnT]
 . rw [decide_eq_false c1, cnF]
   obtain ⟨p', rfl⟩ : ∃ p' : Nat, p = (p' : Int) := ⟨p.toNat, by omega⟩
   by_cases c2 : (p' : Int) >= (nP c : Int)
   . right; rw [decide_eq_true c2, cnT]
   . have hp : p' < nP c := by omega
     rw [decide_eq_false c2, cnF]
     by_cases c3 : q < 0
     . right; rw [decide_eq_true c3, cnT]
     . rw [decide_eq_false c3, cnF, zh hp, cnT]
       obtain ⟨q', rfl⟩ : ∃ q' : Nat, q = (q' : Int) := ⟨q.toNat, by omega⟩
       simp only [tnC, hD.ports p' hp]
       by_cases c4 : (q' : Int) >= ((P c p').ports.length : Int)
       . right; rw [decide_eq_true c4, cnT]
       . have hq : q' < (P c p').ports.length := by omega
         left
         refine ⟨p', q', rfl, rfl, hp, hq, ?_⟩
         rw [decide_eq_false c4, cnF, zh hq]; rfl
theorem zvX {p q : Nat} (hp : p < nP c) (hq : q < zL c p) : ∃ k : Nat, (Pt c p q).channel = (k : Int) /\ k < nC c := by
 have h := g.port p q hp hq
 refine ⟨(Pt c p q).channel.toNat, by omega, ?_⟩
 have : (nC c : Int) = c.channels.length := rfl
 omega
theorem zqo {k : Nat} (hk : k < nC c) : (zyC c k).dests.length = kD c k /\ ∀ j, j < kD c k -> zb3 (zyC c k).dests j = ⟨(zF (dl c k) j).partition, (zF (dl c k) j).port, (psC c k j : Int)⟩ := ⟨zfQ _ _ _, fun j hj => zkk _ _ _ _ hj⟩
theorem ziK {k : Nat} (hk : k < nC c) (h2 : (Ch c k).kind = 2) : za5 (some D) (k : Int) = ⟨⟨(sAt c k : Int), (Ch c k).words, mk (kD c k) fun j => (psC c k j : Int)⟩, (Ch c k).depth⟩ /\ zgh (some D) (k : Int) = true := by
 refine zk (?_ : zpT (some D) (k : Int) = some _)
 obtain ⟨l1, l2⟩ := zvf g w hD hk
 obtain ⟨d1, d2⟩ := zqo g w hD hk
 obtain ⟨n1, n2⟩ := zwa g w hk
 have hl := zz (n := kD c k) (f := fun i (xs : List Int) => znf (some D) (k : Int) (.l0 (i : Int) xs)) (S := fun i => mk i fun j => (psC c k j : Int)) (fun i hi => by
  rw [zin]
  simp only [zfE, Option.getD_some, tnC, l1, d1, zR hi, cnT, zh hi, d2 i hi, zB, List.length_singleton, zbc (show (i + 1) * 8 <= 140737488355328 by omega), zf i (show i < 4611686018427387904 by omega)]
  rw [zqB i fun j => (psC c k j : Int)])
 unfold zpT zmo
 simp only [Option.getD_some, Option.isSome_some, cnT, hD.chans, l2, zh (show k < c.channels.length from hk), zh hk]
 refine (show znf (some D) (k : Int) (.l0 0 []) = _ from hl).trans ?_
 rw [zin]
 have e2 : (zo c.channels k).kind = 2 := h2
 simp only [zfE, Option.getD_some, tnC, l1, d1, zS (Nat.le_refl _), cnF, hD.chans, e2, beq_self_eq_true, cnT, id]
 rfl
theorem zfK {k : Nat} (hk : k < nC c) (h2 : (Ch c k).kind = 1) : zgh (some D) (k : Int) = false /\ z6 (some D) (k : Int) = ⟨⟨(sAt c k : Int), (Ch c k).words, mk (kD c k) fun j => (psC c k j : Int)⟩⟩ /\ zbH (some D) (k : Int) = true := by
 obtain ⟨l1, l2⟩ := zvf g w hD hk
 obtain ⟨d1, d2⟩ := zqo g w hD hk
 obtain ⟨n1, n2⟩ := zwa g w hk
 have e2 : (zo c.channels k).kind = 1 := h2
 constructor
 . have hl := zz (n := kD c k) (f := fun i (xs : List Int) => znf (some D) (k : Int) (.l0 (i : Int) xs)) (S := fun i => mk i fun j => (psC c k j : Int)) (fun i hi => by
    rw [zin]
    simp only [zfE, Option.getD_some, tnC, l1, d1, zR hi, cnT, zh hi, d2 i hi, zB, List.length_singleton, zbc (show (i + 1) * 8 <= 140737488355328 by omega), zf i (show i < 4611686018427387904 by omega)]
    rw [zqB i fun j => (psC c k j : Int)])
   have : zpT (some D) (k : Int) = none := by
    unfold zpT zmo
    simp only [Option.getD_some, Option.isSome_some, cnT, hD.chans, l2, zh (show k < c.channels.length from hk), zh hk]
    refine (show znf (some D) (k : Int) (.l0 0 []) = _ from hl).trans ?_
    rw [zin]
    simp only [zfE, Option.getD_some, tnC, l1, d1, zS (Nat.le_refl _), cnF, hD.chans, e2, show ((1 : Int) == 2) = false from rfl]
   unfold zgh
   rw [this]; rfl
 . refine zk (?_ : zgO (some D) (k : Int) = some _)
   have hl := zz (n := kD c k) (f := fun i (xs : List Int) => zey (some D) (k : Int) (.l0 (i : Int) xs)) (S := fun i => mk i fun j => (psC c k j : Int)) (fun i hi => by
    rw [zij]
    simp only [zbD, Option.getD_some, tnC, l1, d1, zR hi, cnT, zh hi, d2 i hi, zB, List.length_singleton, zbc (show (i + 1) * 8 <= 140737488355328 by omega), zf i (show i < 4611686018427387904 by omega)]
    rw [zqB i fun j => (psC c k j : Int)])
   unfold zgO zdl
   simp only [Option.getD_some, Option.isSome_some, cnT, hD.chans, l2, zh (show k < c.channels.length from hk), zh hk]
   refine (show zey (some D) (k : Int) (.l0 0 []) = _ from hl).trans ?_
   rw [zij]
   simp only [zbD, Option.getD_some, tnC, l1, d1, zS (Nat.le_refl _), cnF, hD.chans, e2, show ((1 : Int) == 2) = false from rfl, id]
   rfl
theorem zzX {p q k : Nat} (hk : k < nC c) (h : ∃ j, j < kD c k /\ zF (dl c k) j = ⟨(p : Int), (q : Int)⟩) : ∃ j, j < kD c k /\ zF (dl c k) j = ⟨(p : Int), (q : Int)⟩ /\ zbO (some D) (p : Int) (q : Int) (k : Int) = (psC c k j : Int) /\ zkU (some D) (p : Int) (q : Int) (k : Int) = true := by
 obtain ⟨l1, l2⟩ := zvf g w hD hk
 obtain ⟨d1, d2⟩ := zqo g w hD hk
 obtain ⟨n1, n2⟩ := zwa g w hk
 have key : ∀ r i, i + r = kD c k -> (∃ j, i <= j /\ j < kD c k /\ zF (dl c k) j = ⟨(p : Int), (q : Int)⟩) -> ∃ j, j < kD c k /\ zF (dl c k) j = ⟨(p : Int), (q : Int)⟩ /\ zng (some D) (p : Int) (q : Int) (k : Int) (.l0 (i : Int)) = some (psC c k j : Int) := by
  intro r
  induction r with
  | zero => rintro i hi ⟨j, h1, h2, _⟩; omega
  | succ r ih =>
   rintro i hi ⟨j, h1, h2, h3⟩
   have hik : i < kD c k := by omega
   have step : zng (some D) (p : Int) (q : Int) (k : Int) (.l0 (i : Int)) = cond ((zF (dl c k) i).partition == (p : Int)) (cond ((zF (dl c k) i).port == (q : Int)) (some (psC c k i : Int)) (zng (some D) (p : Int) (q : Int) (k : Int) (.l0 ((i + 1 : Nat) : Int)))) (zng (some D) (p : Int) (q : Int) (k : Int) (.l0 ((i + 1 : Nat) : Int))) := by
    rw [zBC]
    simp only [zkd, Option.getD_some, tnC, l1, d1, zR hik, cnT, zh hik, d2 i hik, zf i (show i < 4611686018427387904 by omega), id]
   rw [step]
   by_cases he : zF (dl c k) i = ⟨(p : Int), (q : Int)⟩
   . exact ⟨i, hik, he, by rw [he]; simp⟩
   . have hn : i ≠ j := fun e => he (by rw [e]; exact h3)
     obtain ⟨j', a1, a2, a3⟩ := ih (i + 1) (by omega) ⟨j, by omega, h2, h3⟩
     refine ⟨j', a1, a2, ?_⟩
     rw [a3]
     cases b1 : (zF (dl c k) i).partition == (p : Int) with
     | false => rfl
     | true =>
      cases b2 : (zF (dl c k) i).port == (q : Int) with
      | false => rfl
      | true => exact absurd (LayoutEnd.ext (eq_of_beq b1) (eq_of_beq b2)) he
 obtain ⟨j, h1, h2⟩ := h
 obtain ⟨j', a1, a2, a3⟩ := key (kD c k) 0 (Nat.zero_add _) ⟨j, Nat.zero_le _, h1, h2⟩
 refine ⟨j', a1, a2, zk (?_ : zwP (some D) (p : Int) (q : Int) (k : Int) = some _)⟩
 unfold zwP zou
 simp only [Option.getD_some, Option.isSome_some, cnT, l2, zh hk]
 exact a3
variable {f : Nat -> Int} (hg : zcl c f)
include hg
theorem zuM : c.frames.toNat <= 1024 := by have := g.frames; omega
theorem zuA {k : Nat} (hk : k < nC c) : sAt c k + stg (Ch c k) <= nW c := (zeZ g w hk).stage
theorem zpd {k j : Nat} (hk : k < nC c) (hj : j < kD c k) : psC c k j + prt (Ch c k) <= nW c := (zeZ g w hk).port j hj
theorem zMk (p q : Int) {m : List Int} (hm : ∀ j, 0 <= zN m j /\ zN m j < 4294967296) : ∃ told f', zkO (some D) p q m (mk (nW c) f) = some (told, 0, ⟨mk (nW c) f'⟩) /\ zcl c f' /\
 (f' = f ∨ (told = 0 /\ ∃ p' q' k : Nat, p = (p' : Int) /\ q = (q' : Int) /\ p' < nP c /\ q' < zL c p' /\ (Pt c p' q').channel = (k : Int) /\ ∀ a, f' a ≠ f a -> zC0 c k a)) := by
 obtain ⟨w1, w2⟩ := zdW g w hD hg.u
 have hF := zuM g w hD hg
 have hroom : zdV (some D) p q = zdV (some D) p q := rfl
 unfold zkO zlX
 simp only [w1, w2, cnT, beq_self_eq_true, Bool.not_true, cnF, id]
 rcases zk9 g w hD p q with ⟨p', q', rfl, rfl, hp, hq, hport⟩ | hport
 . obtain ⟨t1, t2⟩ := zk hport
   have t1' : zK (some D) (p' : Int) (q' : Int) = (Pt c p' q', true) := t1
   have t2' : zc6 (some D) (p' : Int) (q' : Int) = true := t2
   obtain ⟨k, hk1, hk⟩ := zvX g w hD hp hq
   cases hsrc : (Pt c p' q').source with
   | false =>
    have hr : zdV (some D) (p' : Int) (q' : Int) = some (0, 2) := by
     unfold zdV zhK
     simp only [t1', t2', hsrc, cnT, cnF, Option.isNone_some, Bool.not_true, Bool.not_false, id]
    obtain ⟨r1, r2⟩ := zk hr
    have r1' : zm3 (some D) (p' : Int) (q' : Int) = (0, 2) := r1
    have r2' : zkT (some D) (p' : Int) (q' : Int) = true := r2
    rw [r1', r2']
    exact ⟨2, f, rfl, hg, .inl rfl⟩
   | true =>
    have hr : zdV (some D) (p' : Int) (q' : Int) = some ((Ch c k).words, 0) := by
     unfold zdV zhK
     simp only [t1', t2', hsrc, cnT, cnF, Option.isNone_some, Option.isSome_some, Option.getD_some, Bool.not_true, hk1, hD.chans, zh (show k < c.channels.length from hk), tnC, id]
     rfl
    obtain ⟨r1, r2⟩ := zk hr
    have r1' : zm3 (some D) (p' : Int) (q' : Int) = ((Ch c k).words, 0) := r1
    have r2' : zkT (some D) (p' : Int) (q' : Int) = true := r2
    rw [r1', r2']
    simp only [beq_self_eq_true, Bool.not_true, cnT, cnF, t1', t2', hk1]
    by_cases c1 : m.length = 0
    . have : ((m.length : Int) == 0) = true := by rw [c1]; rfl
      rw [this]
      exact ⟨3, f, rfl, hg, .inl rfl⟩
    . rw [nz c1, cnF]
      by_cases c2 : (m.length : Int) > (Ch c k).words
      . rw [decide_eq_true c2]
        exact ⟨3, f, rfl, hg, .inl rfl⟩
      . rw [decide_eq_false c2, cnF]
        have hx := (g.chan k hk).1
        have hmo : zbQ (Ch c k).words.toNat m := ⟨by omega, by have := hx.words; omega, hm⟩
        have hin : ∀ f', zgr (stB (Ch c k)) (sAt c k) (stg (Ch c k)) f f' -> ∀ a, f' a ≠ f a -> zC0 c k a := fun f' hw a ha => by
         refine Classical.byContradiction fun hn => ha (hw.out a fun h => hn ⟨hk, h⟩)
        rcases hx.kind with h1 | h2
        . obtain ⟨a1, a2, a3⟩ := zfK g w hD hk h1
          obtain ⟨f', s1, s2⟩ := zMj hg.u hF hx h1 (zuA g w hD hg hk) (hg.st k hk) hmo (mk (kD c k) fun j => (psC c k j : Int))
          obtain ⟨s1', s1''⟩ := zk s1
          have z1 : zeu ⟨⟨(sAt c k : Int), (Ch c k).words, mk (kD c k) fun j => (psC c k j : Int)⟩⟩ m (mk (nW c) f) = (true, 0, ⟨mk (nW c) f'⟩) := s1'
          have z2 : znI ⟨⟨(sAt c k : Int), (Ch c k).words, mk (kD c k) fun j => (psC c k j : Int)⟩⟩ m (mk (nW c) f) = true := s1''
          rw [a1, cnF, a2, a3, z1, z2]
          exact ⟨0, f', rfl, zgx g hg hk s2, .inr ⟨rfl, p', q', k, rfl, rfl, hp, hq, hk1, hin f' s2⟩⟩
        . obtain ⟨a1, a2⟩ := ziK g w hD hk h2
          obtain ⟨b, f', s1, s2, s3⟩ := zMi hg.u hF hx h2 (zuA g w hD hg hk) (hg.st k hk) hmo (mk (kD c k) fun j => (psC c k j : Int))
          obtain ⟨s1', s1''⟩ := zk s1
          have z1 : zfs ⟨⟨(sAt c k : Int), (Ch c k).words, mk (kD c k) fun j => (psC c k j : Int)⟩, (Ch c k).depth⟩ m (mk (nW c) f) = (b, 0, ⟨mk (nW c) f'⟩) := s1'
          have z2 : zrX ⟨⟨(sAt c k : Int), (Ch c k).words, mk (kD c k) fun j => (psC c k j : Int)⟩, (Ch c k).depth⟩ m (mk (nW c) f) = true := s1''
          rw [a2, cnT, a1, z1, z2]
          cases b with
          | false => exact ⟨5, f', rfl, zgx g hg hk s2, .inl (s3 rfl)⟩
          | true => exact ⟨0, f', rfl, zgx g hg hk s2, .inr ⟨rfl, p', q', k, rfl, rfl, hp, hq, hk1, hin f' s2⟩⟩
 . obtain ⟨t1, t2⟩ := zk hport
   have t1' : zK (some D) p q = (⟨0, false⟩, false) := t1
   have t2' : zc6 (some D) p q = true := t2
   have hr : zdV (some D) p q = some (0, 1) := by
    unfold zdV zhK
    simp only [t1', t2', cnT, cnF, Option.isNone_some, Bool.not_false, id]
   obtain ⟨r1, r2⟩ := zk hr
   have r1' : zm3 (some D) p q = (0, 1) := r1
   have r2' : zkT (some D) p q = true := r2
   rw [r1', r2']
   exact ⟨1, f, rfl, hg, .inl rfl⟩
theorem zM5 (p q : Int) : ∃ f', zwE (some D) p q (mk (nW c) f) = some (0, ⟨mk (nW c) f'⟩) /\ zcl c f' /\
 (f' = f ∨ ∃ k j : Nat, zF (dl c k) j = ⟨p, q⟩ /\ ∀ a, f' a ≠ f a -> zIm c k j a) := by
 obtain ⟨w1, w2⟩ := zdW g w hD hg.u
 have hF := zuM g w hD hg
 unfold zwE ztb
 simp only [w1, w2, cnT, beq_self_eq_true, Bool.not_true, cnF, id]
 rcases zk9 g w hD p q with ⟨p', q', rfl, rfl, hp, hq, hport⟩ | hport
 . obtain ⟨t1, t2⟩ := zk hport
   have t1' : zK (some D) (p' : Int) (q' : Int) = (Pt c p' q', true) := t1
   have t2' : zc6 (some D) (p' : Int) (q' : Int) = true := t2
   obtain ⟨k, hk1, hk⟩ := zvX g w hD hp hq
   rw [t1', t2']
   simp only [Bool.not_true, cnT, cnF, hk1]
   cases hsrc : (Pt c p' q').source with
   | true => exact ⟨f, rfl, hg, .inl rfl⟩
   | false =>
    rw [cnF]
    have hx := (g.chan k hk).1
    rcases hx.kind with h1 | h2
    . obtain ⟨a1, a2, a3⟩ := zfK g w hD hk h1
      rw [a1, cnF, a3]
      exact ⟨f, rfl, hg, .inl rfl⟩
    . obtain ⟨a1, a2⟩ := ziK g w hD hk h2
      obtain ⟨j, b1, b2, b3, b4⟩ := zzX g w hD hk (zfO hp hq hk1 hsrc)
      obtain ⟨b, f', s1, s2⟩ := zM4 hg.u hF hx h2 (zpd g w hD hg hk b1) (hg.pt k hk j b1)
      obtain ⟨s1', s1''⟩ := zk s1
      have z1 : zvq (psC c k j : Int) (Ch c k).words (Ch c k).depth (mk (nW c) f) = (b, 0, ⟨mk (nW c) f'⟩) := s1'
      have z2 : zxa (psC c k j : Int) (Ch c k).words (Ch c k).depth (mk (nW c) f) = true := s1''
      rw [a2, cnT, a1, b3, b4]
      simp only [z1, z2, cnT]
      exact ⟨f', rfl, zyN g hg hk b1 s2, .inr ⟨k, j, b2, fun a ha => Classical.byContradiction fun hn => ha (s2.out a fun h => hn ⟨hk, b1, h⟩)⟩⟩
 . obtain ⟨t1, t2⟩ := zk hport
   have t1' : zK (some D) p q = (⟨0, false⟩, false) := t1
   have t2' : zc6 (some D) p q = true := t2
   rw [t1', t2']
   exact ⟨f, rfl, hg, .inl rfl⟩
theorem zKb (p q : Int) : ∃ told m x, zpR (some D) p q (mk (nW c) f) = some (told, m, x, 0, ⟨mk (nW c) f⟩) := by
 obtain ⟨w1, w2⟩ := zdW g w hD hg.u
 have hF := zuM g w hD hg
 unfold zpR zon
 simp only [w1, w2, cnT, beq_self_eq_true, Bool.not_true, cnF, id]
 rcases zk9 g w hD p q with ⟨p', q', rfl, rfl, hp, hq, hport⟩ | hport
 . obtain ⟨t1, t2⟩ := zk hport
   have t1' : zK (some D) (p' : Int) (q' : Int) = (Pt c p' q', true) := t1
   have t2' : zc6 (some D) (p' : Int) (q' : Int) = true := t2
   obtain ⟨k, hk1, hk⟩ := zvX g w hD hp hq
   rw [t1', t2']
   simp only [Bool.not_true, cnT, cnF, hk1]
   cases hsrc : (Pt c p' q').source with
   | true => exact ⟨_, _, _, rfl⟩
   | false =>
    rw [cnF]
    have hx := (g.chan k hk).1
    obtain ⟨j, b1, b2, b3, b4⟩ := zzX g w hD hk (zfO hp hq hk1 hsrc)
    rcases hx.kind with h1 | h2
    . obtain ⟨a1, a2, a3⟩ := zfK g w hD hk h1
      obtain ⟨⟨m, v, b, s1⟩, _⟩ := zAG hg.u hF hx h1 (sAt c k : Int) (mk (kD c k) fun j => (psC c k j : Int)) (zpd g w hD hg hk b1) (hg.pt k hk j b1)
      obtain ⟨s1', s1''⟩ := zk s1
      have z1 : zc5 ⟨⟨(sAt c k : Int), (Ch c k).words, mk (kD c k) fun j => (psC c k j : Int)⟩⟩ (some ⟨mk (nW c) f⟩) (psC c k j : Int) = (m, v, b, 0) := s1'
      have z2 : zhA ⟨⟨(sAt c k : Int), (Ch c k).words, mk (kD c k) fun j => (psC c k j : Int)⟩⟩ (some ⟨mk (nW c) f⟩) (psC c k j : Int) = true := s1''
      rw [a1, cnF, a2, a3, b3, b4]
      simp only [z1, z2, cnT, beq_self_eq_true, Bool.not_true, cnF]
      cases b <;> exact ⟨_, _, _, rfl⟩
    . obtain ⟨a1, a2⟩ := ziK g w hD hk h2
      obtain ⟨⟨m, v, b, s1⟩, _⟩ := zAF hg.u hF hx h2 (sAt c k : Int) (mk (kD c k) fun j => (psC c k j : Int)) (zpd g w hD hg hk b1) (hg.pt k hk j b1)
      obtain ⟨s1', s1''⟩ := zk s1
      have z1 : zdL ⟨⟨(sAt c k : Int), (Ch c k).words, mk (kD c k) fun j => (psC c k j : Int)⟩, (Ch c k).depth⟩ (psC c k j : Int) (mk (nW c) f) = (m, v, b, 0, ⟨mk (nW c) f⟩) := s1'
      have z2 : zrW ⟨⟨(sAt c k : Int), (Ch c k).words, mk (kD c k) fun j => (psC c k j : Int)⟩, (Ch c k).depth⟩ (psC c k j : Int) (mk (nW c) f) = true := s1''
      rw [a2, cnT, a1, b3, b4]
      simp only [z1, z2, cnT, beq_self_eq_true, Bool.not_true, cnF]
      cases b <;> exact ⟨_, _, _, rfl⟩
 . obtain ⟨t1, t2⟩ := zk hport
   have t1' : zK (some D) p q = (⟨0, false⟩, false) := t1
   have t2' : zc6 (some D) p q = true := t2
   rw [t1', t2']
   exact ⟨_, _, _, rfl⟩
theorem zBV (p q : Int) : ∃ told x y, zwF (some D) p q (mk (nW c) f) = some (told, x, y, 0, ⟨mk (nW c) f⟩) := by
 obtain ⟨w1, w2⟩ := zdW g w hD hg.u
 have hF := zuM g w hD hg
 unfold zwF ztc
 simp only [w1, w2, cnT, beq_self_eq_true, Bool.not_true, cnF, id]
 rcases zk9 g w hD p q with ⟨p', q', rfl, rfl, hp, hq, hport⟩ | hport
 . obtain ⟨t1, t2⟩ := zk hport
   have t1' : zK (some D) (p' : Int) (q' : Int) = (Pt c p' q', true) := t1
   have t2' : zc6 (some D) (p' : Int) (q' : Int) = true := t2
   obtain ⟨k, hk1, hk⟩ := zvX g w hD hp hq
   rw [t1', t2']
   simp only [Bool.not_true, cnT, cnF, hk1]
   have hx := (g.chan k hk).1
   rcases hx.kind with h1 | h2
   . obtain ⟨a1, a2, a3⟩ := zfK g w hD hk h1
     rw [a1, cnF, a2, a3, cnT]
     cases hsrc : (Pt c p' q').source with
     | true =>
      obtain ⟨r, s1⟩ := zMA hg.u hF hx h1 (mk (kD c k) fun j => (psC c k j : Int)) (zuA g w hD hg hk) (hg.st k hk)
      obtain ⟨s1', s1''⟩ := zk s1
      have z1 : zpx ⟨⟨(sAt c k : Int), (Ch c k).words, mk (kD c k) fun j => (psC c k j : Int)⟩⟩ (some ⟨mk (nW c) f⟩) = (r, 0) := s1'
      have z2 : zr4 ⟨⟨(sAt c k : Int), (Ch c k).words, mk (kD c k) fun j => (psC c k j : Int)⟩⟩ (some ⟨mk (nW c) f⟩) = true := s1''
      simp only [z1, z2, cnT]
      exact ⟨_, _, _, rfl⟩
     | false =>
      obtain ⟨j, b1, b2, b3, b4⟩ := zzX g w hD hk (zfO hp hq hk1 hsrc)
      obtain ⟨_, ⟨v, x, s1⟩⟩ := zAG hg.u hF hx h1 (sAt c k : Int) (mk (kD c k) fun j => (psC c k j : Int)) (zpd g w hD hg hk b1) (hg.pt k hk j b1)
      obtain ⟨s1', s1''⟩ := zk s1
      have z1 : zih ⟨⟨(sAt c k : Int), (Ch c k).words, mk (kD c k) fun j => (psC c k j : Int)⟩⟩ (some ⟨mk (nW c) f⟩) (psC c k j : Int) = (v, x, 0) := s1'
      have z2 : zr3 ⟨⟨(sAt c k : Int), (Ch c k).words, mk (kD c k) fun j => (psC c k j : Int)⟩⟩ (some ⟨mk (nW c) f⟩) (psC c k j : Int) = true := s1''
      rw [cnF, b3, b4]
      simp only [z1, z2, cnT, beq_self_eq_true, Bool.not_true, cnF]
      exact ⟨_, _, _, rfl⟩
   . obtain ⟨a1, a2⟩ := ziK g w hD hk h2
     rw [a2, cnT, a1]
     cases hsrc : (Pt c p' q').source with
     | true =>
      obtain ⟨r, s1⟩ := zMz hg.u hF hx h2 (mk (kD c k) fun j => (psC c k j : Int)) (zuA g w hD hg hk) (hg.st k hk)
      obtain ⟨s1', s1''⟩ := zk s1
      have z1 : zkI ⟨⟨(sAt c k : Int), (Ch c k).words, mk (kD c k) fun j => (psC c k j : Int)⟩, (Ch c k).depth⟩ (mk (nW c) f) = (r, 0, ⟨mk (nW c) f⟩) := s1'
      have z2 : zrY ⟨⟨(sAt c k : Int), (Ch c k).words, mk (kD c k) fun j => (psC c k j : Int)⟩, (Ch c k).depth⟩ (mk (nW c) f) = true := s1''
      simp only [z1, z2, cnT]
      exact ⟨_, _, _, rfl⟩
     | false =>
      obtain ⟨j, b1, b2, b3, b4⟩ := zzX g w hD hk (zfO hp hq hk1 hsrc)
      obtain ⟨_, ⟨v, x, s1⟩⟩ := zAF hg.u hF hx h2 (sAt c k : Int) (mk (kD c k) fun j => (psC c k j : Int)) (zpd g w hD hg hk b1) (hg.pt k hk j b1)
      obtain ⟨s1', s1''⟩ := zk s1
      have z1 : zfr ⟨⟨(sAt c k : Int), (Ch c k).words, mk (kD c k) fun j => (psC c k j : Int)⟩, (Ch c k).depth⟩ (psC c k j : Int) (mk (nW c) f) = (v, x, 0, ⟨mk (nW c) f⟩) := s1'
      have z2 : zrV ⟨⟨(sAt c k : Int), (Ch c k).words, mk (kD c k) fun j => (psC c k j : Int)⟩, (Ch c k).depth⟩ (psC c k j : Int) (mk (nW c) f) = true := s1''
      rw [cnF, b3, b4]
      simp only [z1, z2, cnT, beq_self_eq_true, Bool.not_true, cnF]
      exact ⟨_, _, _, rfl⟩
 . obtain ⟨t1, t2⟩ := zk hport
   have t1' : zK (some D) p q = (⟨0, false⟩, false) := t1
   have t2' : zc6 (some D) p q = true := t2
   rw [t1', t2']
   exact ⟨_, _, _, rfl⟩
theorem zeH : ∀ k, k <= nC c -> zcl c (zaz c f k) /\ (k < nC c -> zlm (Ch c k) (sAt c k) (kD c k) (psC c k) (zaz c f k) (zaz c f (k + 1)) /\ ((Ch c k).kind = 2 -> zjS ⟨⟨(sAt c k : Int), (Ch c k).words, mk (kD c k) fun j => (psC c k j : Int)⟩, (Ch c k).depth⟩ (mk (nW c) (zaz c f k)) = some (0, ⟨mk (nW c) (zaz c f (k + 1))⟩)) /\ ((Ch c k).kind = 1 -> zjU ⟨⟨(sAt c k : Int), (Ch c k).words, mk (kD c k) fun j => (psC c k j : Int)⟩⟩ (mk (nW c) (zaz c f k)) = some (0, ⟨mk (nW c) (zaz c f (k + 1))⟩))) := by
 have hF := zuM g w hD hg
 have one : ∀ k, zcl c (zaz c f k) -> k < nC c -> zlm (Ch c k) (sAt c k) (kD c k) (psC c k) (zaz c f k) (zaz c f (k + 1)) /\ ((Ch c k).kind = 2 -> zjS ⟨⟨(sAt c k : Int), (Ch c k).words, mk (kD c k) fun j => (psC c k j : Int)⟩, (Ch c k).depth⟩ (mk (nW c) (zaz c f k)) = some (0, ⟨mk (nW c) (zaz c f (k + 1))⟩)) /\ ((Ch c k).kind = 1 -> zjU ⟨⟨(sAt c k : Int), (Ch c k).words, mk (kD c k) fun j => (psC c k j : Int)⟩⟩ (mk (nW c) (zaz c f k)) = some (0, ⟨mk (nW c) (zaz c f (k + 1))⟩)) := fun k hgk hk => by
  have hx := (g.chan k hk).1
  obtain ⟨n1, n2⟩ := zwa g w hk
  rcases hx.kind with h1 | h2
  . obtain ⟨t1, t2⟩ := zM7 hgk.u hF hx n1 n2 (zeZ g w hk) (hgk.st k hk) (hgk.pt k hk) h1
    exact ⟨t2, fun h => by omega, fun _ => t1⟩
  . obtain ⟨t1, t2⟩ := zM6 hgk.u hF hx n1 n2 (zeZ g w hk) (hgk.st k hk) (hgk.pt k hk) h2
    exact ⟨t2, fun _ => t1, fun h => by omega⟩
 intro k
 induction k with
 | zero => exact fun _ => ⟨hg, one 0 hg⟩
 | succ k ih =>
  intro hk
  obtain ⟨i1, i2⟩ := ih (by omega)
  have i3 := zyO g i1 (show k < nC c by omega) (i2 (by omega)).1
  exact ⟨i3, one (k + 1) i3⟩
theorem zvN {a : Nat} (h1 : ∀ k, ¬ zC0 c k a) (h2 : ∀ k j, ¬ zIm c k j a) : ∀ k, k <= nC c -> zaz c f k a = f a := by
 intro k
 induction k with
 | zero => exact fun _ => rfl
 | succ k ih =>
  intro hk
  obtain ⟨_, i2⟩ := zeH g w hD hg k (by omega)
  rw [(i2 (by omega)).1.out a (fun h => h1 k ⟨by omega, h⟩) fun j hj h => h2 k j ⟨by omega, hj, h⟩]
  exact ih (by omega)
theorem zCQ : zwC (some D) (mk (nW c) f) = some (0, ⟨mk (nW c) (zaz c f (nC c))⟩) := by
 obtain ⟨w1, w2⟩ := zdW g w hD hg.u
 have hF := g.frames
 have hlen : c.channels.length = nC c := rfl
 have hN : 16 <= nW c /\ nW c <= 16384 := by unfold nW; omega
 have hC : zpU (mk (nW c) f) = some (mk (nW c) f) := by
  unfold zpU zos
  have : Nat.beq (mk (nW c) f).length 0 = false := by
   rw [zB]
   cases h : Nat.beq (nW c) 0 with
   | false => rfl
   | true => exact absurd (Nat.eq_of_beq_eq_true h) (by omega)
  rw [this, zbc (by rw [zB]; simp only [List.length_nil]; omega)]; rfl
 obtain ⟨c1, c2⟩ := zk hC
 have c1' : zzc (mk (nW c) f) = mk (nW c) f := c1
 have c2' : zp2 (mk (nW c) f) = true := c2
 have hCl : zwO (some ⟨mk (nW c) f⟩) = some ⟨mk (nW c) f⟩ := by
  unfold zwO zti
  simp only [Option.getD_some, Option.isNone_some, Option.isSome_some, cnT, cnF, c1', c2', id]
 obtain ⟨e1, e2⟩ := zk hCl
 have e1' : zGj (some ⟨mk (nW c) f⟩) = ⟨mk (nW c) f⟩ := e1
 have e2' : zw9 (some ⟨mk (nW c) f⟩) = true := e2
 have l0 := zz (n := nC c) (f := fun i (xs : List Int) => zm6 (some D) (mk (nW c) f) (.l0 (i : Int) xs)) (S := fun i => mk (nW c) (zaz c f i)) (fun k hk => by
  obtain ⟨_, t0⟩ := zeH g w hD hg k (by omega)
  obtain ⟨_, t2, t1⟩ := t0 hk
  rw [zik]
  rcases (g.chan k hk).1.kind with h1 | h2
  . obtain ⟨a1, a2, a3⟩ := zfK g w hD hk h1
    obtain ⟨s1, s2⟩ := zk (t1 h1)
    have s1' : zm1 ⟨⟨(sAt c k : Int), (Ch c k).words, mk (kD c k) fun j => (psC c k j : Int)⟩⟩ (mk (nW c) (zaz c f k)) = _ := s1
    have s2' : zj5 ⟨⟨(sAt c k : Int), (Ch c k).words, mk (kD c k) fun j => (psC c k j : Int)⟩⟩ (mk (nW c) (zaz c f k)) = true := s2
    simp only [zec, Option.getD_some, hD.chans, hlen, zR hk, cnT, a1, cnF, a2, a3, s1', s2', beq_self_eq_true, Bool.not_true, zf k (show k < 4611686018427387904 by have := g.chans; omega)]
  . obtain ⟨a1, a2⟩ := ziK g w hD hk h2
    obtain ⟨s1, s2⟩ := zk (t2 h2)
    have s1' : zm0 ⟨⟨(sAt c k : Int), (Ch c k).words, mk (kD c k) fun j => (psC c k j : Int)⟩, (Ch c k).depth⟩ (mk (nW c) (zaz c f k)) = _ := s1
    have s2' : zj2 ⟨⟨(sAt c k : Int), (Ch c k).words, mk (kD c k) fun j => (psC c k j : Int)⟩, (Ch c k).depth⟩ (mk (nW c) (zaz c f k)) = true := s2
    simp only [zec, Option.getD_some, hD.chans, hlen, zR hk, cnT, a1, cnF, a2, s1', s2', beq_self_eq_true, Bool.not_true, zf k (show k < 4611686018427387904 by have := g.chans; omega)])
 have l4 := zz (n := nC c) (f := fun i (xs : List Int) => zm6 (some D) (mk (nW c) f) (.l4 (i : Int) xs)) (S := fun i => mk (nW c) (zaz c f i)) (fun k hk => by
  obtain ⟨_, t0⟩ := zeH g w hD hg k (by omega)
  obtain ⟨_, t2, t1⟩ := t0 hk
  rw [zik]
  rcases (g.chan k hk).1.kind with h1 | h2
  . obtain ⟨a1, a2, a3⟩ := zfK g w hD hk h1
    obtain ⟨s1, s2⟩ := zk (t1 h1)
    have s1' : zm1 ⟨⟨(sAt c k : Int), (Ch c k).words, mk (kD c k) fun j => (psC c k j : Int)⟩⟩ (mk (nW c) (zaz c f k)) = _ := s1
    have s2' : zj5 ⟨⟨(sAt c k : Int), (Ch c k).words, mk (kD c k) fun j => (psC c k j : Int)⟩⟩ (mk (nW c) (zaz c f k)) = true := s2
    simp only [zec, Option.getD_some, hD.chans, hlen, zR hk, cnT, a1, cnF, a2, a3, s1', s2', zf k (show k < 4611686018427387904 by have := g.chans; omega)]
  . obtain ⟨a1, a2⟩ := ziK g w hD hk h2
    obtain ⟨s1, s2⟩ := zk (t2 h2)
    have s1' : zm0 ⟨⟨(sAt c k : Int), (Ch c k).words, mk (kD c k) fun j => (psC c k j : Int)⟩, (Ch c k).depth⟩ (mk (nW c) (zaz c f k)) = _ := s1
    have s2' : zj2 ⟨⟨(sAt c k : Int), (Ch c k).words, mk (kD c k) fun j => (psC c k j : Int)⟩, (Ch c k).depth⟩ (mk (nW c) (zaz c f k)) = true := s2
    simp only [zec, Option.getD_some, hD.chans, hlen, zR hk, cnT, a1, cnF, a2, s1', s2', zf k (show k < 4611686018427387904 by have := g.chans; omega)])
 unfold zwC zom
 simp only [w1, w2, cnT, beq_self_eq_true, Bool.not_true, cnF, e1', e2', Option.isSome_some]
 refine (show zm6 (some D) (mk (nW c) f) (.l0 0 (mk (nW c) f)) = _ from l0).trans ?_
 rw [zik]
 simp only [zec, Option.getD_some, hD.chans, hlen, zS (Nat.le_refl _), cnF, Option.isSome_some, cnT]
 refine (show zm6 (some D) (mk (nW c) f) (.l4 0 (mk (nW c) f)) = _ from l4).trans ?_
 rw [zik]
 simp only [zec, Option.getD_some, hD.chans, hlen, zS (Nat.le_refl _), cnF, id]
end
theorem zdG {σ R : Type} {n : Nat} {f : Nat -> σ -> Option R} (I : Nat -> σ -> Prop) (hs : ∀ i, i < n -> ∀ s, I i s -> ∃ s', I (i + 1) s' /\ f i s = f (i + 1) s') : ∀ s, I 0 s -> ∃ s', I n s' /\ f 0 s = f n s' := by
 intro s h0
 have : ∀ k, k <= n -> ∃ s', I k s' /\ f 0 s = f k s' := by
  intro k
  induction k with
  | zero => exact fun _ => ⟨s, h0, rfl⟩
  | succ k ih =>
   intro hk
   obtain ⟨s1, h1, e1⟩ := ih (by omega)
   obtain ⟨s2, h2, e2⟩ := hs k (by omega) s1 h1
   exact ⟨s2, h2, e1.trans e2⟩
 exact this n (Nat.le_refl n)
theorem zqg {α : Type} (xs : List α) {i : Nat} (h : i < xs.length) {y : α} (hy : y = xs[i]) : xs.take i ++ [y] = xs.take (i + 1) := by
 subst hy; simp
theorem zzU {xs : List (List Window)} {i : Nat} (h : i < xs.length) : zq xs i = xs[i] := by simp [zq, List.getD, h]
theorem zzV {xs : List Partition} {i : Nat} (h : i < xs.length) : za xs i = xs[i] := by simp [za, List.getD, h]
theorem ztD {c : Config} (hc : zbK c) : zwI c = some c := by
 have hB : B47 = 140737488351232 := rfl
 have h1 := hc.cores
 have h2 := hc.parts
 have h3 := hc.chans
 have l0 := zz (n := c.cores.length) (f := fun i (xs : List (List Window)) => zne c (.l0 (i : Int) xs)) (S := fun i => c.cores.take i) (fun i hi => by
  have hci := hc.core i hi
  rw [zim]
  simp only [zfD, zR hi, cnT, zh hi, tnC, List.nil_append, List.length_nil, List.length_singleton, List.length_take, zbc (show (0 + (zq c.cores i).length) * 24 <= 140737488355328 by omega), zbc (show (min i c.cores.length + 1) * 24 <= 140737488355328 by omega), zqg c.cores hi (zzU hi), zf i (show i < 4611686018427387904 by omega)])
 have l4 := zz (n := c.partitions.length) (f := fun i (xs : List Partition) => zne c (.l4 (i : Int) c.cores xs)) (S := fun i => c.partitions.take i) (fun i hi => by
  have hr := hc.regions i hi
  have hp := hc.ports i hi
  rw [zim]
  simp only [zfD, zR hi, cnT, zh hi, tnC, List.nil_append, List.length_nil, List.length_singleton, List.length_take, zbc (show (0 + (za c.partitions i).regions.length) * 32 <= 140737488355328 by omega), zbc (show (0 + (za c.partitions i).ports.length) * 16 <= 140737488355328 by omega), zbc (show (min i c.partitions.length + 1) * 104 <= 140737488355328 by omega), zqg c.partitions hi (zzV hi), zf i (show i < 4611686018427387904 by omega)])
 unfold zwI zoq
 refine (show zne c (.l0 0 []) = _ from l0).trans ?_
 rw [zim]
 simp only [zfD, zS (Nat.le_refl _), cnF, List.take_length]
 refine (show zne c (.l4 0 c.cores []) = _ from l4).trans ?_
 rw [zim]
 simp only [zfD, zS (Nat.le_refl _), cnF, List.take_length, List.nil_append, List.length_nil, zbc (show (0 + c.channels.length) * 24 <= 140737488355328 by omega), cnT, id]
theorem zMg {p : Partition} (hr : p.regions.length < 4611686018427387904) (hp : p.ports.length < 4611686018427387904) : zwV p p = some true := by
 have l0 := zz (n := p.regions.length) (f := fun i (_ : Unit) => znh p p (.l0 (i : Int))) (S := fun _ => ()) (fun i hi => by
  rw [zir]
  simp only [zfF, zR hi, cnT, zh hi, beq_self_eq_true, Bool.and_self, Bool.not_true, cnF, zf i (show i < 4611686018427387904 by omega)])
 have l4 := zz (n := p.ports.length) (f := fun i (_ : Unit) => znh p p (.l4 (i : Int))) (S := fun _ => ()) (fun i hi => by
  rw [zir]
  simp only [zfF, zR hi, cnT, zh hi, beq_self_eq_true, Bool.and_self, Bool.not_true, cnF, zf i (show i < 4611686018427387904 by omega)])
 unfold zwV zoC
 simp only [beq_self_eq_true, Bool.not_true, cnF]
 refine (show znh p p (.l0 0) = _ from l0).trans ?_
 rw [zir]
 simp only [zfF, zS (Nat.le_refl _), cnF]
 refine (show znh p p (.l4 0) = _ from l4).trans ?_
 rw [zir]
 simp only [zfF, zS (Nat.le_refl _), cnF, id]
theorem zcK {xs : List (List Window)} {i j : Nat} {y : List Window} (h : i < xs.length) : zq (List.set xs i y) j = if i = j then y else zq xs j := by
 by_cases e : i = j
 . subst e; rw [if_pos rfl]; simp [zq, List.getD, h]
 . rw [if_neg e]; simp [zq, List.getD, List.getElem?_set, e]
theorem zDU {xs : List Window} {i j : Nat} {y : Window} (e : i ≠ j) : zaZ (List.set xs i y) j = zaZ xs j := by simp [zaZ, List.getD, List.getElem?_set, e]
theorem zbn {xs : List Partition} {i j : Nat} {y : Partition} (h : i < xs.length) : za (List.set xs i y) j = if i = j then y else za xs j := by
 by_cases e : i = j
 . subst e; rw [if_pos rfl]; simp [za, List.getD, h]
 . rw [if_neg e]; simp [za, List.getD, List.getElem?_set, e]
theorem zzT {xs : List Channel} {i j : Nat} {y : Channel} (e : i ≠ j) : zo (List.set xs i y) j = zo xs j := by simp [zo, List.getD, List.getElem?_set, e]
theorem zmP {c : Config} (hc : zbK c) (fr mj kn rm : Int) : ∃ a b d, zwK fr mj kn rm c c.cores c.partitions c.channels = some (true, a, b, d) := by
 have hB : B47 = 140737488351232 := rfl
 have h1 := hc.cores
 have h2 := hc.parts
 have h3 := hc.chans
 -- cores
 obtain ⟨xc, ⟨ic, _⟩, l0⟩ := zdG (n := c.cores.length) (f := fun i (xs : List (List Window)) => zb6 fr mj kn rm c c.cores c.partitions c.channels (.l0 true (i : Int) xs)) (fun i xs => xs.length = c.cores.length /\ ∀ j, i <= j -> zq xs j = zq c.cores j) (fun i hi xs ⟨hl, hx⟩ => by
  have hci := hc.core i hi
  have hil : i < xs.length := by omega
  have inner := zdG (n := (zq c.cores i).length) (f := fun k (ys : List (List Window)) => zb6 fr mj kn rm c c.cores c.partitions c.channels (.l4 true (i : Int) (k : Int) (i : Int) true ys)) (fun k ys => ys.length = c.cores.length /\ (∀ j, i + 1 <= j -> zq ys j = zq c.cores j) /\ (zq ys i).length = (zq c.cores i).length /\ ∀ m, k <= m -> zaZ (zq ys i) m = zaZ (zq c.cores i) m) (fun k hk ys ⟨y1, y2, y3, y4⟩ => by
   have hy : i < ys.length := by omega
   have hk3 : k < (zq ys i).length := by omega
   have s1 : zq (List.set ys i (zq ys i)) i = zq ys i := by rw [zcK hy, if_pos rfl]
   refine ⟨List.set (List.set ys i (zq ys i)) i (List.set (zq ys i) k ⟨-1, 1, 0⟩), ⟨by simp [y1], fun j hj => ?_, ?_, fun m hm => ?_⟩, ?_⟩
   . rw [zcK (by simpa using hy), if_neg (by omega), zcK hy, if_neg (by omega)]; exact y2 j hj
   . rw [zcK (by simpa using hy), if_pos rfl, List.length_set]; exact y3
   . rw [zcK (by simpa using hy), if_pos rfl, zDU (by omega)]; exact y4 m (by omega)
   . rw [zbq]
     simp only [zcc, cnT, zh hi, tnC, zR hk, zh hy, zh hk3, zh hk, s1, y4 k (Nat.le_refl _), beq_self_eq_true, Bool.and_self, zf k (show k < 4611686018427387904 by omega)])
  obtain ⟨ys, ⟨y1, y2, y3, y4⟩, e1⟩ := inner (List.set xs i (zq xs i)) ⟨by simp [hl], fun j hj => by rw [zcK hil, if_neg (by omega)]; exact hx j (by omega), by rw [zcK hil, if_pos rfl, hx i (Nat.le_refl _)], fun m _ => by rw [zcK hil, if_pos rfl, hx i (Nat.le_refl _)]⟩
  refine ⟨ys, ⟨y1, y2⟩, ?_⟩
  have st : zb6 fr mj kn rm c c.cores c.partitions c.channels (.l0 true (i : Int) xs) = zb6 fr mj kn rm c c.cores c.partitions c.channels (.l4 true (i : Int) 0 (i : Int) true (List.set xs i (zq xs i))) := by
   rw [zbq]
   simp only [zcc, cnT, zR hi, zh hil, zh hi, tnC, hx i (Nat.le_refl _), beq_self_eq_true]
  have en : zb6 fr mj kn rm c c.cores c.partitions c.channels (.l4 true (i : Int) ((zq c.cores i).length : Int) (i : Int) true ys) = zb6 fr mj kn rm c c.cores c.partitions c.channels (.l0 true ((i + 1 : Nat) : Int) ys) := by
   rw [zbq]
   simp only [zcc, cnT, zh hi, tnC, zS (Nat.le_refl _), cnF, zf i (show i < 4611686018427387904 by omega)]
  exact st.trans (e1.trans en)) c.cores ⟨rfl, fun _ _ => rfl⟩
 -- partitions
 obtain ⟨xp, _, l8⟩ := zdG (n := c.partitions.length) (f := fun i (xs : List Partition) => zb6 fr mj kn rm c c.cores c.partitions c.channels (.l8 true (i : Int) xc xs)) (fun i xs => xs.length = c.partitions.length /\ ∀ j, i <= j -> za xs j = za c.partitions j) (fun i hi xs ⟨hl, hx⟩ => by
  have hr := hc.regions i hi
  have hp := hc.ports i hi
  have hil : i < xs.length := by omega
  obtain ⟨k1, k2⟩ := zk (zMg (p := za c.partitions i) (by omega) (by omega))
  have k1' : zGk (za c.partitions i) (za c.partitions i) = true := k1
  have k2' : zxd (za c.partitions i) (za c.partitions i) = true := k2
  let J : List Partition -> Prop := fun ys => ys.length = c.partitions.length /\ (∀ j, i + 1 <= j -> za ys j = za c.partitions j) /\ (za ys i).regions.length = (za c.partitions i).regions.length /\ (za ys i).ports.length = (za c.partitions i).ports.length
  have m12 := zdG (n := (za c.partitions i).regions.length) (f := fun k (ys : List Partition) => zb6 fr mj kn rm c c.cores c.partitions c.channels (.l12 true (i : Int) (k : Int) (i : Int) true xc ys)) (fun k ys => J ys) (fun k hk ys ⟨y1, y2, y3, y4⟩ => by
   have hy : i < ys.length := by omega
   have hk3 : k < (za ys i).regions.length := by omega
   refine ⟨_, ⟨?_, fun j hj => ?_, ?_, ?_⟩, by
    rw [zbq]
    simp only [zcc, cnT, zh hi, tnC, zR hk, zh hy, zh hk3, zf k (show k < 4611686018427387904 by omega)]
    rfl⟩
   . simp [y1]
   . rw [zbn hy, if_neg (by omega)]; exact y2 j hj
   . rw [zbn hy, if_pos rfl, List.length_set]; exact y3
   . rw [zbn hy, if_pos rfl]; exact y4)
  have m16 := zdG (n := (za c.partitions i).ports.length) (f := fun k (ys : List Partition) => zb6 fr mj kn rm c c.cores c.partitions c.channels (.l16 true (i : Int) (k : Int) (i : Int) true xc ys)) (fun k ys => J ys) (fun k hk ys ⟨y1, y2, y3, y4⟩ => by
   have hy : i < ys.length := by omega
   have hk3 : k < (za ys i).ports.length := by omega
   refine ⟨_, ⟨?_, fun j hj => ?_, ?_, ?_⟩, by
    rw [zbq]
    simp only [zcc, cnT, zh hi, tnC, zR hk, zh hy, zh hk3, zf k (show k < 4611686018427387904 by omega)]
    rfl⟩
   . simp [y1]
   . rw [zbn hy, if_neg (by omega)]; exact y2 j hj
   . rw [zbn hy, if_pos rfl]; exact y3
   . rw [zbn hy, if_pos rfl, List.length_set]; exact y4)
  have e8 : ∃ ys, J ys /\ zb6 fr mj kn rm c c.cores c.partitions c.channels (.l8 true (i : Int) xc xs) = zb6 fr mj kn rm c c.cores c.partitions c.channels (.l12 true (i : Int) 0 (i : Int) true xc ys) := by
   refine ⟨_, ⟨?_, fun j hj => ?_, ?_, ?_⟩, by
    rw [zbq]
    simp only [zcc, cnT, zR hi, zh hil, zh hi, tnC, hx i (Nat.le_refl _), k1', k2']
    rfl⟩
   . simp [hl]
   . rw [zbn (by simpa using hil), if_neg (by omega), zbn hil, if_neg (by omega)]; exact hx j (by omega)
   . rw [zbn (by simpa using hil), if_pos rfl]
   . rw [zbn (by simpa using hil), if_pos rfl, zbn hil, if_pos rfl]
  obtain ⟨ya, ja, ea⟩ := e8
  obtain ⟨yb, jb, eb⟩ := m12 ya ja
  have ec : zb6 fr mj kn rm c c.cores c.partitions c.channels (.l12 true (i : Int) ((za c.partitions i).regions.length : Int) (i : Int) true xc yb) = zb6 fr mj kn rm c c.cores c.partitions c.channels (.l16 true (i : Int) 0 (i : Int) true xc yb) := by
   rw [zbq]
   simp only [zcc, cnT, zh hi, tnC, zS (Nat.le_refl _), cnF]
  obtain ⟨yd, ⟨j1, j2, j3, j4⟩, ed⟩ := m16 yb jb
  have hy : i < yd.length := by omega
  refine ⟨_, ⟨?_, fun j hj => ?_⟩, ea.trans (eb.trans (ec.trans (ed.trans (by
   rw [zbq]
   simp only [zcc, cnT, zh hi, tnC, zS (Nat.le_refl _), cnF, zh hy, zf i (show i < 4611686018427387904 by omega)]
   rfl))))⟩
  . simp [j1]
  . rw [zbn hy, if_neg (by omega)]; exact j2 j hj) c.partitions ⟨rfl, fun _ _ => rfl⟩
 -- channels
 obtain ⟨xh, _, l20⟩ := zdG (n := c.channels.length) (f := fun i (xs : List Channel) => zb6 fr mj kn rm c c.cores c.partitions c.channels (.l20 true (i : Int) xc xp xs)) (fun i xs => xs.length = c.channels.length /\ ∀ j, i <= j -> zo xs j = zo c.channels j) (fun i hi xs ⟨hl, hx⟩ => by
  have hil : i < xs.length := by omega
  refine ⟨List.set xs i ⟨i64.wrap (3 - (zo c.channels i).kind), 1, 1⟩, ⟨by simp [hl], fun j hj => by rw [zzT (by omega)]; exact hx j (by omega)⟩, ?_⟩
  rw [zbq]
  simp only [zcc, cnT, zR hi, zh hil, zh hi, tnC, hx i (Nat.le_refl _), beq_self_eq_true, Bool.and_self, zf i (show i < 4611686018427387904 by omega)]) c.channels ⟨rfl, fun _ _ => rfl⟩
 refine ⟨xc, xp, xh, ?_⟩
 unfold zwK zor
 simp only [beq_self_eq_true, cnT]
 refine (show zb6 fr mj kn rm c c.cores c.partitions c.channels (.l0 true 0 c.cores) = _ from l0).trans ?_
 rw [zbq]
 simp only [zcc, cnT, zS (Nat.le_refl _), cnF]
 refine (show zb6 fr mj kn rm c c.cores c.partitions c.channels (.l8 true 0 xc c.partitions) = _ from l8).trans ?_
 rw [zbq]
 simp only [zcc, cnT, zS (Nat.le_refl _), cnF]
 refine (show zb6 fr mj kn rm c c.cores c.partitions c.channels (.l20 true 0 xc xp c.channels) = _ from l20).trans ?_
 rw [zbq]
 simp only [zcc, cnT, zS (Nat.le_refl _), cnF, id]
theorem zcR {c : Config} (hc : zbK c) (hv : zcC c = true) : zaC c /\ zuN c := by
 unfold zcC at hv
 rw [Bool.and_eq_true] at hv
 have g := zqw hc hv.1
 exact ⟨g, zFC g hv.2⟩
noncomputable def zBd (c : Config) (i : Nat) : Partition := ⟨ByteArray.mk #[], 0, 0, 0, 0, 0, [], (P c i).ports⟩
noncomputable def zcW (c : Config) : DuctDucts := ⟨⟨c.frames, 0, 0, 0, [], (List.range (nP c)).map (zBd c), c.channels⟩, lay c⟩
theorem zAg (c : Config) : zzB c (zcW c) := ⟨rfl, rfl, by simp [zcW], fun p hp => by
 have : za (zcW c).c.partitions p = zBd c p := by simp [zcW, za, List.getD, hp]
 rw [this]; rfl, rfl⟩
theorem zPs {c : Config} (hc : zbK c) (hv : zcC c = true) : zpS c = some (zcW c, 0) := by
 have hB : B47 = 140737488351232 := rfl
 have h2 := hc.parts
 have h3 := hc.chans
 obtain ⟨g, w⟩ := zcR hc hv
 obtain ⟨r, hr, hr2⟩ := zxW hc
 rw [hv] at hr2
 obtain ⟨k1, k2⟩ := zk hr
 have k1' : zuc c = r := k1
 have k2' : zp5 c = true := k2
 obtain ⟨l1, l2⟩ := zk (zH5 g w.kernel)
 have l1' : zcZ c = (lay c, 0) := l1
 have l2' : znO c = true := l2
 have l0 := zz (n := nP c) (f := fun i (xs : List Partition) => zug c (.l0 (i : Int) xs)) (S := fun i => (List.range i).map (zBd c)) (fun i hi => by
  have hi' : i < c.partitions.length := hi
  have hp := hc.ports i hi'
  have e : (List.range (i + 1)).map (zBd c) = (List.range i).map (zBd c) ++ [⟨ByteArray.mk #[], 0, 0, 0, 0, 0, [], (za c.partitions i).ports⟩] := by rw [List.range_succ, List.map_append]; rfl
  rw [zuh]
  simp only [zhH, zR hi', cnT, zh hi', tnC, List.nil_append, List.length_nil, List.length_singleton, List.length_map, List.length_range, zbc (show (0 + (za c.partitions i).ports.length) * 16 <= 140737488355328 by omega), zbc (show (i + 1) * 104 <= 140737488355328 by omega), zf i (show i < 4611686018427387904 by omega), e])
 unfold zpS zmn
 simp only [k1', k2', hr2, l1', l2', cnT, Bool.not_true, cnF, beq_self_eq_true, List.length_nil, zbc (show (0 + c.channels.length) * 24 <= 140737488355328 by omega)]
 refine (show zug c (.l0 0 []) = _ from l0).trans ?_
 have hf : decide ((nP c : Int) < (c.partitions.length : Int)) = false := zS (Nat.le_refl _)
 rw [zuh]
 simp only [zhH, hf, cnF, l1', List.nil_append, id]
 rfl
theorem zPr {c : Config} (hc : zbK c) (hv : zcC c = false) : zpS c = none /\ zgN c = some (none, 210) := by
 obtain ⟨r, hr, hr2⟩ := zxW hc
 rw [hv] at hr2
 obtain ⟨k1, k2⟩ := zk hr
 have k1' : zuc c = r := k1
 have k2' : zp5 c = true := k2
 constructor
 . unfold zpS zmn
   simp only [k1', k2', hr2, cnT, Bool.not_false]
 . unfold zgN zdk
   simp only [k1', k2', hr2, cnT, Bool.not_false, id]
theorem zBv {c : Config} (hc : zbK c) : ∃ y, zwJ c = some (y, cond (zcC c) 0 210) /\ y.isNone = !(zcC c) := by
 obtain ⟨r, hr, hr2⟩ := zGX hc
 obtain ⟨k1, k2⟩ := zk hr
 have k1' : zze c = r := k1
 have k2' : zxc c = true := k2
 unfold zwJ zte
 cases hv : zcC c with
 | false =>
  rw [hv] at hr2
  simp only [k1', k2', hr2, cnT, Bool.not_false, cnF, id]
  exact ⟨_, rfl, rfl⟩
 | true =>
  rw [hv] at hr2
  obtain ⟨g, w⟩ := zcR hc hv
  obtain ⟨L, hL, _⟩ := of_r g w.kernel
  obtain ⟨l1, l2⟩ := zk hL
  have l1' : zhu c = (L, 0) := l1
  have l2' : zp6 c = true := l2
  simp only [k1', k2', hr2, l1', l2', cnT, Bool.not_true, cnF, id]
  exact ⟨_, rfl, rfl⟩
theorem zPo {c : Config} (g : zaC c) : zwL c.frames = some (⟨mk (nW c) fun _ => 0⟩, 0) /\ ∃ y, zwM c.frames = some (y, 0) := by
 have hf := g.frames
 have e1 : i64.wrap (c.frames * 16) = ((nW c : Nat) : Int) := zr _ _ (by unfold nW; omega) (by unfold nW; omega)
 have e2 : i64.wrap (16 * c.frames) = ((nW c : Nat) : Int) := zr _ _ (by unfold nW; omega) (by unfold nW; omega)
 have hN : nW c <= 100000 := by unfold nW; omega
 constructor
 . unfold zwL ztf
   rw [decide_eq_false (show ¬ c.frames < 1 by omega), decide_eq_false (show ¬ c.frames > 1024 by omega), e1, mkTn (x := nW c) hN (by decide)]
   simp only [cnF, cnT, tnC, List.length_replicate, zqA, zB, id]
 . unfold zwM ztg
   rw [decide_eq_false (show ¬ c.frames < 1 by omega), decide_eq_false (show ¬ c.frames > 1024 by omega), e2, mkTn (x := nW c) hN (by decide)]
   exact ⟨_, rfl⟩
theorem zBb {c : Config} (hc : zbK c) (hv : zcC c = true) : ∃ W : Bulkheadlaw21World, zzp c = some (W, true) /\ W.d = some (zcW c) /\ W.m = some ⟨mk (nW c) fun _ => 0⟩ := by
 obtain ⟨g, w⟩ := zcR hc hv
 obtain ⟨h1, h2⟩ := zk (ztD hc)
 have h1' : zai c = c := h1
 have h2' : zp1 c = true := h2
 obtain ⟨n1, n2⟩ := zk (zPs hc hv)
 have n1' : zff c = (zcW c, 0) := n1
 have n2' : znN c = true := n2
 obtain ⟨y, hy, hy2⟩ := zBv hc
 rw [hv] at hy hy2
 obtain ⟨y1, y2⟩ := zk hy
 have y1' : zcy c = (y, 0) := y1
 have y2' : zkQ c = true := y2
 obtain ⟨a, b, d, hr⟩ := zmP hc c.frames c.major c.kernel c.room
 obtain ⟨r1, r2⟩ := zk hr
 have r1' : zm2 c.frames c.major c.kernel c.room c c.cores c.partitions c.channels = (true, a, b, d) := r1
 have r2' : zkR c.frames c.major c.kernel c.room c c.cores c.partitions c.channels = true := r2
 obtain ⟨m, z, hz⟩ := zPo g
 obtain ⟨m1, m2⟩ := zk m
 have m1' : zew c.frames = _ := m1
 have m2' : zgf c.frames = true := m2
 obtain ⟨z1, z2⟩ := zk hz
 have z1' : zex c.frames = (z, 0) := z1
 have z2' : zgg c.frames = true := z2
 unfold zzp zyJ
 simp only [h1', h2', n1', n2', y1', y2', r1', r2', m1', m2', z1', z2', hy2, cnT, cnF, Bool.not_true, Bool.not_false, beq_self_eq_true, id]
 exact ⟨_, rfl, rfl, rfl⟩
theorem zL4 {c : Config} (hc : zbK c) (hv : zcC c = false) : zux c = false /\ ∃ W : Bulkheadlaw21World, zgM c = some (W, true) := by
 obtain ⟨h1, h2⟩ := zk (ztD hc)
 have h1' : zai c = c := h1
 have h2' : zp1 c = true := h2
 obtain ⟨f1, f2⟩ := zPr hc hv
 have n2' : znN c = false := by unfold znN; rw [f1]; rfl
 obtain ⟨n3, n4⟩ := zk f2
 have n3' : zf4 c = (none, 210) := n3
 have n4' : zeF c = true := n4
 obtain ⟨y, hy, hy2⟩ := zBv hc
 rw [hv] at hy hy2
 obtain ⟨y1, y2⟩ := zk hy
 have y1' : zcy c = (y, 210) := y1
 have y2' : zkQ c = true := y2
 obtain ⟨a, b, d, hr⟩ := zmP hc c.frames c.major c.kernel c.room
 obtain ⟨r1, r2⟩ := zk hr
 have r1' : zm2 c.frames c.major c.kernel c.room c c.cores c.partitions c.channels = (true, a, b, d) := r1
 have r2' : zkR c.frames c.major c.kernel c.room c c.cores c.partitions c.channels = true := r2
 constructor
 . have : zzp c = none := by
    unfold zzp zyJ
    simp only [h1', h2', n2', n3', n4', y1', y2', r1', r2', hy2, cnT, cnF, Bool.not_true, Bool.not_false, beq_self_eq_true]
   unfold zux
   rw [this]; rfl
 . unfold zgM zen
   simp only [h1', h2', n2', n3', n4', y1', y2', r1', r2', hy2, cnT, cnF, Bool.not_true, Bool.not_false, beq_self_eq_true, id]
   exact ⟨_, rfl⟩
theorem zM8 {c : Config} (hc : zbK c) : ∃ b, zMv c = some b := by
 have hB : B47 = 140737488351232 := rfl
 have h1 := hc.cores
 have h2 := hc.parts
 have l4 : ∀ r i, i + r = c.partitions.length -> ∀ x : Int, ∃ b, zBG c (.l4 x (i : Int)) = some b := by
  intro r
  induction r with
  | zero =>
   intro i hi x
   rw [zlg]
   simp only [zlr, zS (show c.partitions.length <= i by omega), cnF, id]
   exact ⟨_, rfl⟩
  | succ r ih =>
   intro i hi x
   have hi' : i < c.partitions.length := by omega
   rw [zlg]
   simp only [zlr, zR hi', cnT, zh hi', zf i (show i < 4611686018427387904 by omega), id]
   cases decide (x <= 2147483647) with
   | false => exact ⟨_, rfl⟩
   | true => exact ih (i + 1) (by omega) _
 have l0 : ∀ r i, i + r = c.cores.length -> ∀ x : Int, ∃ b, zBG c (.l0 x (i : Int)) = some b := by
  intro r
  induction r with
  | zero =>
   intro i hi x
   rw [zlg]
   simp only [zlr, zS (show c.cores.length <= i by omega), cnF, id]
   exact l4 c.partitions.length 0 (Nat.zero_add _) x
  | succ r ih =>
   intro i hi x
   have hi' : i < c.cores.length := by omega
   rw [zlg]
   simp only [zlr, zR hi', cnT, zh hi', zf i (show i < 4611686018427387904 by omega), id]
   cases decide (x <= 2147483647) with
   | false => exact l4 c.partitions.length 0 (Nat.zero_add _) x
   | true => exact ih (i + 1) (by omega) _
 exact l0 c.cores.length 0 (Nat.zero_add _) _
theorem zxZ {N : Nat} (h1 : 1 <= N) (hN : N <= 100000) (f : Nat -> Int) : zzb (some ⟨mk N f⟩) = mk N f /\ zuw (some ⟨mk N f⟩) = true := by
 refine zk (?_ : zwD (some ⟨mk N f⟩) = some (mk N f))
 have hC : zpU (mk N f) = some (mk N f) := by
  unfold zpU zos
  have : Nat.beq (mk N f).length 0 = false := by
   rw [zB]
   cases h : Nat.beq N 0 with
   | false => rfl
   | true => exact absurd (Nat.eq_of_beq_eq_true h) (by omega)
  rw [this, zbc (by rw [zB]; simp only [List.length_nil]; omega)]; rfl
 obtain ⟨c1, c2⟩ := zk hC
 have c1' : zzc (mk N f) = mk N f := c1
 have c2' : zp2 (mk N f) = true := c2
 unfold zwD zta
 simp only [Option.getD_some, Option.isNone_some, Option.isSome_some, cnT, cnF, c1', c2', id]
theorem zFW {l : List Int} (h : l.length < 4611686018427387904) : zwH l l = some true := by
 have l0 := zz (n := l.length) (f := fun i (_ : Unit) => zue l l (.l0 (i : Int))) (S := fun _ => ()) (fun i hi => by
  rw [zuf]
  simp only [zhG, zR hi, cnT, zh hi, beq_self_eq_true, Bool.not_true, cnF, zf i (show i < 4611686018427387904 by omega)])
 unfold zwH zop
 simp only [beq_self_eq_true, Bool.not_true, cnF]
 refine (show zue l l (.l0 0) = _ from l0).trans ?_
 rw [zuf]
 simp only [zhG, zS (Nat.le_refl _), cnF, id]
section
variable {c : Config} (g : zaC c) (w : zuN c) {D : DuctDucts} (hD : zzB c D) {f : Nat -> Int} (hg : zcl c f)
include g w hD hg
theorem zqp {p q : Nat} (hp : p < nP c) (hq : q < zL c p) : zK (some D) (p : Int) (q : Int) = (Pt c p q, true) /\ zc6 (some D) (p : Int) (q : Int) = true := by
 refine zk (?_ : znB (some D) (p : Int) (q : Int) = some _)
 have hq' : q < (P c p).ports.length := hq
 unfold znB zot
 simp only [Option.getD_some, Option.isNone_some, Option.isSome_some, cnT, cnF, hD.len, id]
 rw [decide_eq_false (show ¬ (p : Int) < 0 by omega), decide_eq_false (show ¬ (p : Int) >= (nP c : Int) by omega), decide_eq_false (show ¬ (q : Int) < 0 by omega), zh hp]
 simp only [tnC, hD.ports p hp, cnT, cnF]
 rw [decide_eq_false (show ¬ (q : Int) >= ((P c p).ports.length : Int) by omega), zh hq']; rfl
theorem zBy {p q : Nat} (hp : p < nP c) (hq : q < zL c p) (hs : (Pt c p q).source = false) (m : List Int) : zkO (some D) (p : Int) (q : Int) m (mk (nW c) f) = some (2, 0, ⟨mk (nW c) f⟩) := by
 obtain ⟨w1, w2⟩ := zdW g w hD hg.u
 obtain ⟨t1, t2⟩ := zqp g w hD hg hp hq
 have hr : zdV (some D) (p : Int) (q : Int) = some (0, 2) := by
  unfold zdV zhK
  simp only [t1, t2, hs, cnT, cnF, Option.isNone_some, Bool.not_true, Bool.not_false, id]
 obtain ⟨r1, r2⟩ := zk hr
 have r1' : zm3 (some D) (p : Int) (q : Int) = (0, 2) := r1
 have r2' : zkT (some D) (p : Int) (q : Int) = true := r2
 unfold zkO zlX
 simp only [w1, w2, cnT, beq_self_eq_true, Bool.not_true, cnF, id]
 rw [r1', r2']; rfl
noncomputable def zy4 (c : Config) (k : Nat) (m : List Int) (f : Nat -> Int) : Nat -> Int := over f (sAt c k) (2 + (Ch c k).words.toNat) (zaQ 2 m.length (hd2 m.length) (zN m))
theorem zMl {p q k : Nat} (hp : p < nP c) (hq : q < zL c p) (hs : (Pt c p q).source = true) (hc : (Pt c p q).channel = (k : Int)) (hk : k < nC c) (h1 : (Ch c k).kind = 1) {m : List Int} (m1 : 1 <= m.length) (m2 : m.length <= (Ch c k).words.toNat) (m3 : ∀ j, 0 <= zN m j /\ zN m j < 4294967296) :
 zkO (some D) (p : Int) (q : Int) m (mk (nW c) f) = some (0, 0, ⟨mk (nW c) (zy4 c k m f)⟩) /\ zcl c (zy4 c k m f) := by
 obtain ⟨w1, w2⟩ := zdW g w hD hg.u
 obtain ⟨t1, t2⟩ := zqp g w hD hg hp hq
 have hx := (g.chan k hk).1
 obtain ⟨x1, x2⟩ := hx.words
 have hF := zuM g w hD hg
 have hst := zuA g w hD hg hk
 have hsB := hg.st k hk
 rw [znU h1] at hst
 have hsB' : zaT (fun i => f (sAt c k + i)) 2 (Ch c k).words.toNat = true := by
  unfold stB at hsB; rw [if_neg (by omega)] at hsB; exact hsB
 have hr : zdV (some D) (p : Int) (q : Int) = some ((Ch c k).words, 0) := by
  unfold zdV zhK
  simp only [t1, t2, hs, cnT, cnF, Option.isNone_some, Option.isSome_some, Option.getD_some, Bool.not_true, hc, hD.chans, zh (show k < c.channels.length from hk), tnC, id]
  rfl
 obtain ⟨r1, r2⟩ := zk hr
 have r1' : zm3 (some D) (p : Int) (q : Int) = ((Ch c k).words, 0) := r1
 have r2' : zkT (some D) (p : Int) (q : Int) = true := r2
 obtain ⟨a1, a2, a3⟩ := zfK g w hD hk h1
 obtain ⟨q1, q2⟩ := zk (zBP hg.u hF (a := sAt c k) (W := (Ch c k).words.toNat) (by omega) (by omega) hst m1 m2 (zN m) hsB')
 rw [← zAV (l := m) rfl] at q1 q2
 have eW : (((Ch c k).words.toNat : Nat) : Int) = (Ch c k).words := by omega
 rw [eW] at q1 q2
 have q1' : zkL (sAt c k : Int) (Ch c k).words m (mk (nW c) f) = (0, ⟨mk (nW c) (zy4 c k m f)⟩) := q1
 have q2' : znK (sAt c k : Int) (Ch c k).words m (mk (nW c) f) = true := q2
 have hS : zjT ⟨⟨(sAt c k : Int), (Ch c k).words, mk (kD c k) fun j => (psC c k j : Int)⟩⟩ m (mk (nW c) f) = some (true, 0, ⟨mk (nW c) (zy4 c k m f)⟩) := by
  unfold zjT zjf
  simp only [q1', q2', cnT, id]
  rfl
 obtain ⟨s1, s2⟩ := zk hS
 have s1' : zeu ⟨⟨(sAt c k : Int), (Ch c k).words, mk (kD c k) fun j => (psC c k j : Int)⟩⟩ m (mk (nW c) f) = _ := s1
 have s2' : znI ⟨⟨(sAt c k : Int), (Ch c k).words, mk (kD c k) fun j => (psC c k j : Int)⟩⟩ m (mk (nW c) f) = true := s2
 constructor
 . unfold zkO zlX
   simp only [w1, w2, cnT, beq_self_eq_true, Bool.not_true, cnF, id, r1', r2', t1, t2, hc, nz (show ¬ m.length = 0 by omega), decide_eq_false (show ¬ (m.length : Int) > (Ch c k).words by omega), a1, a2, a3, s1', s2']
 . refine zgx g hg hk ⟨zcX hg.u fun i hi => ?_, ?_, fun i hi => zaD (by rw [znU h1] at hi; exact hi)⟩
   . unfold zaQ hd2
     split
     . split
       . omega
       . constructor <;> omega
     . split
       . exact m3 _
       . omega
   . unfold stB
     rw [if_neg (by omega), zbY (f := fun i => zy4 c k m f (sAt c k + i)) (g := zaQ 2 m.length (hd2 m.length) (zN m)) (.inl rfl) fun i hi => zdf hi]
     exact zjF (.inl rfl) m1 m2 _ _ rfl (fun h => absurd h (by decide)) rfl
theorem zKc {p q k : Nat} (hp : p < nP c) (hq : q < zL c p) (hs : (Pt c p q).source = false) (hc : (Pt c p q).channel = (k : Int)) (hk : k < nC c) (h1 : (Ch c k).kind = 1) : ∃ j, j < kD c k /\ zF (dl c k) j = ⟨(p : Int), (q : Int)⟩ /\ ∀ m : List Int, zc3 (fun i => f (psC c k j + i)) 3 (Ch c k).words.toNat = m -> 1 <= m.length -> f (psC c k j + 1) = 1 ->
 zpR (some D) (p : Int) (q : Int) (mk (nW c) f) = some (0, m, 1, 0, ⟨mk (nW c) f⟩) := by
 obtain ⟨w1, w2⟩ := zdW g w hD hg.u
 obtain ⟨t1, t2⟩ := zqp g w hD hg hp hq
 have hx := (g.chan k hk).1
 obtain ⟨x1, x2⟩ := hx.words
 have hF := zuM g w hD hg
 have hNW := (zsf g w).2
 obtain ⟨j, b1, b2, b3, b4⟩ := zzX g w hD hk (zfO hp hq hc hs)
 refine ⟨j, b1, b2, fun m hm m1 hfr => ?_⟩
 have hpt := zpd g w hD hg hk b1
 have hpB := hg.pt k hk j b1
 rw [zt0 h1] at hpt
 have hpB' : zaT (fun i => f (psC c k j + i)) 3 (Ch c k).words.toNat = true := by
  unfold ptB at hpB; rw [if_neg (by omega)] at hpB; exact hpB
 have eW : (((Ch c k).words.toNat : Nat) : Int) = (Ch c k).words := by omega
 obtain ⟨k1, k2⟩ := zk (zix hg.u (N := nW c) (a := psC c k j) (by omega) (h := 3) (.inr rfl) (W := (Ch c k).words.toNat) (by omega) hpt)
 rw [hpB', eW, hm] at k1
 rw [eW] at k2
 have k1' : za4 (some ⟨mk (nW c) f⟩) (psC c k j : Int) (Ch c k).words 3 = (m, 0) := k1
 have k2' : zcA (some ⟨mk (nW c) f⟩) (psC c k j : Int) (Ch c k).words 3 = true := k2
 obtain ⟨r1, r2⟩ := zk (zBq (f := f) (N := nW c) (a := psC c k j + 1) (by omega) (by omega))
 rw [hfr] at r1
 have e1 : i64.wrap ((psC c k j : Int) + 1) = ((psC c k j + 1 : Nat) : Int) := zf _ (by omega)
 have r1' : zpB (some ⟨mk (nW c) f⟩) ((psC c k j + 1 : Nat) : Int) = (1, 0) := r1
 have r2' : znL (some ⟨mk (nW c) f⟩) ((psC c k j + 1 : Nat) : Int) = true := r2
 have hmay := ztP hg.u (W := (Ch c k).words.toNat) ⟨mk (nW c) f⟩ (by omega) (by omega)
 rw [eW] at hmay
 have hR : zjV (some ⟨mk (nW c) f⟩) (psC c k j : Int) (Ch c k).words = some (m, true, true, 0) := by
  unfold zjV zjg
  rw [hmay, e1]
  simp only [k1', k2', r1', r2', beq_self_eq_true, Bool.not_true, cnT, cnF, nz (show ¬ m.length = 0 by omega), id]
 obtain ⟨q1, q2⟩ := zk hR
 have q1' : zf5 (some ⟨mk (nW c) f⟩) (psC c k j : Int) (Ch c k).words = (m, true, true, 0) := q1
 have q2' : znJ (some ⟨mk (nW c) f⟩) (psC c k j : Int) (Ch c k).words = true := q2
 have hL : zhz ⟨⟨(sAt c k : Int), (Ch c k).words, mk (kD c k) fun j => (psC c k j : Int)⟩⟩ (some ⟨mk (nW c) f⟩) (psC c k j : Int) = some (m, 1, true, 0) := by
  unfold zhz zje
  simp only [q1', q2', cnT, id]
  rfl
 obtain ⟨s1, s2⟩ := zk hL
 have s1' : zc5 ⟨⟨(sAt c k : Int), (Ch c k).words, mk (kD c k) fun j => (psC c k j : Int)⟩⟩ (some ⟨mk (nW c) f⟩) (psC c k j : Int) = _ := s1
 have s2' : zhA ⟨⟨(sAt c k : Int), (Ch c k).words, mk (kD c k) fun j => (psC c k j : Int)⟩⟩ (some ⟨mk (nW c) f⟩) (psC c k j : Int) = true := s2
 obtain ⟨a1, a2, a3⟩ := zfK g w hD hk h1
 unfold zpR zon
 simp only [w1, w2, cnT, beq_self_eq_true, Bool.not_true, cnF, id, t1, t2, hs, hc, a1, a2, a3, b3, b4, s1', s2']
end
noncomputable def kn : Config := sp25
theorem zAB : zbK kn := by
 refine ⟨by show I64 16; unfold I64; omega, by show I64 3; unfold I64; omega, by show I64 13; unfold I64; omega, by show 1 * 24 <= B47; unfold B47; omega, fun i hi => ?_, by show 3 * 104 <= B47; unfold B47; omega, fun i hi => ?_, fun i hi => ?_, fun i hi => ?_, by show 2 * 24 <= B47; unfold B47; omega, fun i k hi hk => ?_⟩
 . have hi' : i < 1 := hi
   obtain rfl : i = 0 := by omega
   show 3 * 24 <= B47
   unfold B47; omega
 . have hi' : i < 3 := hi
   rcases (show i = 0 ∨ i = 1 ∨ i = 2 by omega) with rfl | rfl | rfl <;> (show 1 * 32 <= B47; unfold B47; omega)
 . have hi' : i < 3 := hi
   rcases (show i = 0 ∨ i = 1 ∨ i = 2 by omega) with rfl | rfl | rfl
   . show 2 * 16 <= B47
     unfold B47; omega
   . show 2 * 16 <= B47
     unfold B47; omega
   . show 1 * 16 <= B47
     unfold B47; omega
 . have hi' : i < 3 := hi
   rcases (show i = 0 ∨ i = 1 ∨ i = 2 by omega) with rfl | rfl | rfl <;> exact of_decide_eq_true (by kernel_rfl)
 . have hi' : i < 3 := hi
   rcases (show i = 0 ∨ i = 1 ∨ i = 2 by omega) with rfl | rfl | rfl <;> (
    have hk' : k < 1 := hk
    obtain rfl : k = 0 := by omega
    first
     | exact ⟨by show I64 0; unfold I64; omega, by show I64 1; unfold I64; omega⟩
     | exact ⟨by show I64 1; unfold I64; omega, by show I64 1; unfold I64; omega⟩
     | exact ⟨by show I64 2; unfold I64; omega, by show I64 1; unfold I64; omega⟩)
theorem ztG : zcC kn = true := by kernel_rfl
noncomputable def kn1 : Nat -> Int := zy4 kn 0 [7, 8] fun _ => 0
noncomputable def kn2 : Nat -> Int := zaz kn kn1 (nC kn)
theorem zD8 : zGp = some true := by
 obtain ⟨g, w⟩ := zcR zAB ztG
 have hD := zAg kn
 obtain ⟨W, hW, hd, hm⟩ := zBb zAB ztG
 obtain ⟨o1, o2⟩ := zk hW
 have o1' : sp8 sp25 = (W, true) := o1
 have o2' : zux sp25 = true := o2
 have m78 : ∀ j, 0 <= zN [7, 8] j /\ zN [7, 8] j < 4294967296 := fun j => by
  match j with
  | 0 => exact ⟨by decide, by decide⟩
  | 1 => exact ⟨by decide, by decide⟩
  | j + 2 => exact ⟨by show (0 : Int) <= 0; omega, by show (0 : Int) < 4294967296; omega⟩
 obtain ⟨s1, hg1⟩ := zMl g w hD (zoR g) (p := 0) (q := 0) (k := 0) (of_decide_eq_true (by kernel_rfl)) (of_decide_eq_true (by kernel_rfl)) (by kernel_rfl) (by kernel_rfl) (of_decide_eq_true (by kernel_rfl)) (by kernel_rfl) (m := [7, 8]) (by decide) (of_decide_eq_true (by kernel_rfl)) m78
 obtain ⟨s2, s3⟩ := zk s1
 have s2' : zd5 (some (zcW kn)) 0 0 [7, 8] (mk (nW kn) fun _ => 0) = (0, 0, ⟨mk (nW kn) kn1⟩) := s2
 have s3' : zkP (some (zcW kn)) 0 0 [7, 8] (mk (nW kn) fun _ => 0) = true := s3
 have hg1' : zcl kn kn1 := hg1
 obtain ⟨t2, t3⟩ := zk (zCQ g w hD hg1')
 have t2' : zgS (some (zcW kn)) (mk (nW kn) kn1) = (0, ⟨mk (nW kn) kn2⟩) := t2
 have t3' : zpZ (some (zcW kn)) (mk (nW kn) kn1) = true := t3
 have hg2 : zcl kn kn2 := (zeH g w hD hg1' (nC kn) (Nat.le_refl _)).1
 obtain ⟨j, j1, j2, j3⟩ := zKc g w hD hg2 (p := 2) (q := 0) (k := 0) (of_decide_eq_true (by kernel_rfl)) (of_decide_eq_true (by kernel_rfl)) (by kernel_rfl) (by kernel_rfl) (of_decide_eq_true (by kernel_rfl)) (by kernel_rfl)
 have hj : j = 1 := by
  have : kD kn 0 = 2 := by kernel_rfl
  rcases (show j = 0 ∨ j = 1 by omega) with rfl | rfl
  . have e : zF (dl kn 0) 0 = ⟨1, 0⟩ := by kernel_rfl
    rw [e] at j2
    exact absurd (congrArg LayoutEnd.partition j2) (by decide)
  . rfl
 subst hj
 have l1 := j3 [7, 8] (by kernel_rfl) (by decide) (by kernel_rfl)
 obtain ⟨l2, l3⟩ := zk l1
 have l2' : zgT (some (zcW kn)) 2 0 (mk (nW kn) kn2) = (0, [7, 8], 1, 0, ⟨mk (nW kn) kn2⟩) := l2
 have l3' : zp0 (some (zcW kn)) 2 0 (mk (nW kn) kn2) = true := l3
 obtain ⟨v2, v3⟩ := zk (zBy g w hD hg2 (p := 1) (q := 0) (of_decide_eq_true (by kernel_rfl)) (of_decide_eq_true (by kernel_rfl)) (by kernel_rfl) [1])
 have v2' : zd5 (some (zcW kn)) 1 0 [1] (mk (nW kn) kn2) = (2, 0, ⟨mk (nW kn) kn2⟩) := v2
 have v3' : zkP (some (zcW kn)) 1 0 [1] (mk (nW kn) kn2) = true := v3
 obtain ⟨u2, u3⟩ := zk (zFW (l := [7, 8]) (by decide))
 have u2' : zGi [7, 8] [7, 8] = true := u2
 have u3' : zw8 [7, 8] [7, 8] = true := u3
 unfold zGp zAl
 simp only [o1', o2', hd, hm, cnT, cnF, Bool.not_true, Option.isNone_some, Option.getD_some, s2', s3', t2', t3', l2', l3', v2', v3', u2', u3', beq_self_eq_true, id]
section
variable {c : Config} (g : zaC c) (w : zuN c)
include g w
theorem zk6 {script : List Bulkheadlaw21Op} {i : Nat} (hi : i < 4611686018427387904) (told kd p q a x : Int) (m : List Int) {f f' : Nat -> Int}
 (hmay : ∀ k, k < nW c -> f' k ≠ f k -> ziv c ⟨kd, p, q, a, x, m⟩ told (own c k) = some true) :
 zjM c script (.l75 (i : Int) told (mk (nW c) f') kd p q a x m (mk (nW c) f)) = zjM c script (.l0 ((i + 1 : Nat) : Int) (mk (nW c) f')) := by
 have hF := g.frames
 have hNW := (zsf g w).2
 have h1 : 1 <= nW c := by unfold nW; omega
 obtain ⟨w1, w2⟩ := zxZ h1 (by omega) f'
 have l6 := zz (n := nW c) (f := fun k (_ : Unit) => zjM c script (.l6 (i : Int) told (k : Int) (mk (nW c) f') kd p q a x m (mk (nW c) f) (mk (nW c) f'))) (S := fun _ => ()) (fun k hk => by
  rw [zio]
  simp only [zkY, zB, zR hk, cnT, zh hk, tnC, zaU hk, zf k (show k < 4611686018427387904 by omega)]
  by_cases he : f' k = f k
  . rw [he, beq_self_eq_true, cnT]
  . have hb : (f' k == f k) = false := by
     cases hc : (f' k == f k) with
     | false => rfl
     | true => exact absurd (eq_of_beq hc) he
    obtain ⟨o1, o2⟩ := zk (zFL g w.kernel (a := k) (by have := zPq g w.kernel; omega))
    have o1' : zvp c (k : Int) = (own c k, 0) := o1
    have o2' : zw6 c (k : Int) = true := o2
    obtain ⟨m1, m2⟩ := zk (hmay k hk he)
    have m1' : zGh c ⟨kd, p, q, a, x, m⟩ told (own c k) = true := m1
    have m2' : zw7 c ⟨kd, p, q, a, x, m⟩ told (own c k) = true := m2
    simp only [hb, cnF, o1', o2', m1', m2', cnT, beq_self_eq_true, Bool.not_true])
 rw [zio]
 simp only [zkY, w1, w2, cnT, zB, beq_self_eq_true, Bool.not_true, cnF]
 refine (show zjM c script (.l6 (i : Int) told 0 (mk (nW c) f') kd p q a x m (mk (nW c) f) (mk (nW c) f')) = _ from l6).trans ?_
 rw [zio]
 simp only [zkY, zB, zS (Nat.le_refl _), cnF, zf i hi]
theorem zAO {p q k : Nat} (hp : p < nP c) (hq : q < zL c p) (hc : (Pt c p q).channel = (k : Int)) (a x : Int) (m : List Int) : ziv c ⟨3, (p : Int), (q : Int), a, x, m⟩ 0 ⟨7, (k : Int), 0⟩ = some true := by
 have hp' : p < c.partitions.length := hp
 have hq' : q < (za c.partitions p).ports.length := hq
 have hc' : (zaI (za c.partitions p).ports q).channel = (k : Int) := hc
 unfold ziv zmj
 simp only [beq_self_eq_true, cnT, decide_eq_false (show ¬ (p : Int) < 0 by omega), decide_eq_false (show ¬ (p : Int) >= (c.partitions.length : Int) by omega), decide_eq_false (show ¬ (q : Int) < 0 by omega), cnF, zh hp', tnC, decide_eq_false (show ¬ (q : Int) >= ((za c.partitions p).ports.length : Int) by omega), zh hq', hc', id]
theorem zAP (p q : Int) (a x t : Int) (m : List Int) : ziv c ⟨5, p, q, a, x, m⟩ t ⟨8, p, q⟩ = some true := by
 unfold ziv zmj
 simp only [beq_self_eq_true, cnT, show ((5 : Int) == 3) = false from rfl, cnF, id]
theorem zAQ (p q : Int) (a x t : Int) (m : List Int) (o : Owner) (h : o.kind = 7 ∨ o.kind = 8) : ziv c ⟨7, p, q, a, x, m⟩ t o = some true := by
 unfold ziv zmj
 simp only [beq_self_eq_true, cnT, show ((7 : Int) == 3) = false from rfl, show ((7 : Int) == 5) = false from rfl, cnF, id]
 rcases h with h | h <;> rw [h] <;> rfl
end
theorem zyQ {c : Config} (hc : zbK c) {script : List Bulkheadlaw21Op} (hs : script.length < 4611686018427387904) (hm : ∀ i, i < script.length -> ∀ j, 0 <= zN (zaj script i).message j /\ zN (zaj script i).message j < 4294967296) : zBH c script = some true := by
 obtain ⟨x1, x2⟩ := zk zD8
 have x1' : sp6 = true := x1
 have x2' : zGq = true := x2
 obtain ⟨b, hb⟩ := zM8 hc
 obtain ⟨v1, v2⟩ := zk hb
 have v1' : sp7 c = b := v1
 have v2' : zGr c = true := v2
 unfold zBH zyI
 simp only [x1', x2', v1', v2', cnT, Bool.not_true, cnF, id]
 cases b with
 | true => rfl
 | false =>
 rw [cnF]
 cases hv : zcC c with
 | false =>
  obtain ⟨o1, W, o2⟩ := zL4 hc hv
  obtain ⟨o3, o4⟩ := zk o2
  have o3' : zch c = (W, true) := o3
  have o4' : zeE c = true := o4
  simp only [o1, o3', o4', cnT, cnF, Bool.not_true]
 | true =>
  obtain ⟨g, w⟩ := zcR hc hv
  have hD := zAg c
  obtain ⟨W, o2, hd, hmm⟩ := zBb hc hv
  obtain ⟨o3, o4⟩ := zk o2
  have o3' : sp8 c = (W, true) := o3
  have o4' : zux c = true := o4
  have hF := g.frames
  have hNW := (zsf g w).2
  have h1N : 1 <= nW c := by unfold nW; omega
  have loop := zdG (n := script.length) (f := fun i (xs : List Int) => zjM c script (.l0 (i : Int) xs)) (fun i xs => ∃ f, xs = mk (nW c) f /\ zcl c f) (fun i hi xs ⟨f, hxs, hg⟩ => by
   subst hxs
   have hmi := hm i hi
   obtain ⟨w1, w2⟩ := zxZ h1N (by omega) f
   have hi62 : i < 4611686018427387904 := by omega
   generalize ho : zaj script i = o at *
   obtain ⟨kd, p, q, a, x, m⟩ := o
   have same : ∀ told : Int, zjM c script (.l75 (i : Int) told (mk (nW c) f) kd p q a x m (mk (nW c) f)) = zjM c script (.l0 ((i + 1 : Nat) : Int) (mk (nW c) f)) := fun told => zk6 g w hi62 told kd p q a x m fun k _ h => absurd rfl h
   have st : ∃ f', zcl c f' /\ zjM c script (.l0 (i : Int) (mk (nW c) f)) = zjM c script (.l0 ((i + 1 : Nat) : Int) (mk (nW c) f')) := by
    rw [zio]
    simp only [zkY, zR hi, cnT, zh hi, tnC, ho, o3', hd, w1, w2, zf i hi62]
    by_cases c8 : kd = 8
    . subst c8
      rw [show ((8 : Int) == 8) = true from rfl, cnT]
      exact ⟨f, hg, rfl⟩
    . have d8 : (kd == 8) = false := by
       cases e : (kd == 8) with
       | false => rfl
       | true => exact absurd (eq_of_beq e) c8
      rw [d8, cnF]
      by_cases c3 : kd = 3
      . subst c3
        rw [show ((3 : Int) == 3) = true from rfl, cnT]
        obtain ⟨told, f', s1, s2, s3⟩ := zMk g w hD hg p q hmi
        obtain ⟨s4, s5⟩ := zk s1
        have s4' : zd5 (some (zcW c)) p q m (mk (nW c) f) = (told, 0, ⟨mk (nW c) f'⟩) := s4
        have s5' : zkP (some (zcW c)) p q m (mk (nW c) f) = true := s5
        simp only [s4', s5', cnT, beq_self_eq_true, Bool.not_true, cnF]
        refine ⟨f', s2, zk6 g w hi62 told 3 p q a x m fun k hk hne => ?_⟩
        rcases s3 with s3 | ⟨ht, p', q', k', rfl, rfl, hp, hq, hch, hin⟩
        . exact absurd (congrFun s3 k) hne
        . obtain ⟨z1, z2⟩ := hin k hne
          rw [zo6 z1 z2, ht]
          exact zAO g w hp hq hch a x m
      . have d3 : (kd == 3) = false := by
         cases e : (kd == 3) with
         | false => rfl
         | true => exact absurd (eq_of_beq e) c3
        rw [d3, cnF]
        by_cases c5 : kd = 5
        . subst c5
          rw [show ((5 : Int) == 5) = true from rfl, cnT]
          obtain ⟨f', s1, s2, s3⟩ := zM5 g w hD hg p q
          obtain ⟨s4, s5⟩ := zk s1
          have s4' : zBA (some (zcW c)) p q (mk (nW c) f) = (0, ⟨mk (nW c) f'⟩) := s4
          have s5' : zw4 (some (zcW c)) p q (mk (nW c) f) = true := s5
          simp only [s4', s5', cnT, beq_self_eq_true, Bool.not_true, cnF]
          refine ⟨f', s2, zk6 g w hi62 (-1) 5 p q a x m fun k hk hne => ?_⟩
          rcases s3 with s3 | ⟨k', j, he, hin⟩
          . exact absurd (congrFun s3 k) hne
          . obtain ⟨z1, z2, z3⟩ := hin k hne
            rw [ztT z1 z2 z3, he]
            exact zAP g w p q a x (-1) m
        . have d5 : (kd == 5) = false := by
           cases e : (kd == 5) with
           | false => rfl
           | true => exact absurd (eq_of_beq e) c5
          rw [d5, cnF]
          by_cases c7 : kd = 7
          . subst c7
            rw [show ((7 : Int) == 7) = true from rfl, cnT]
            obtain ⟨s4, s5⟩ := zk (zCQ g w hD hg)
            have s4' : zgS (some (zcW c)) (mk (nW c) f) = (0, ⟨mk (nW c) (zaz c f (nC c))⟩) := s4
            have s5' : zpZ (some (zcW c)) (mk (nW c) f) = true := s5
            simp only [s4', s5', cnT, beq_self_eq_true, Bool.not_true, cnF]
            refine ⟨_, (zeH g w hD hg (nC c) (Nat.le_refl _)).1, zk6 g w hi62 (-1) 7 p q a x m fun k hk hne => ?_⟩
            refine zAQ g w p q a x (-1) m _ ?_
            by_cases h1 : ∃ k', zC0 c k' k
            . obtain ⟨k', z1, z2⟩ := h1
              rw [zo6 z1 z2]; exact .inl rfl
            . by_cases h2 : ∃ k' j, zIm c k' j k
              . obtain ⟨k', j, z1, z2, z3⟩ := h2
                rw [ztT z1 z2 z3]; exact .inr rfl
              . exact absurd (zvN g w hD hg (fun k' h => h1 ⟨k', h⟩) (fun k' j h => h2 ⟨k', j, h⟩) (nC c) (Nat.le_refl _)) hne
          . have d7 : (kd == 7) = false := by
             cases e : (kd == 7) with
             | false => rfl
             | true => exact absurd (eq_of_beq e) c7
            rw [d7, cnF]
            by_cases c4 : kd = 4
            . subst c4
              rw [show ((4 : Int) == 4) = true from rfl, cnT]
              obtain ⟨told, l, y, s1⟩ := zKb g w hD hg p q
              obtain ⟨s4, s5⟩ := zk s1
              have s4' : zgT (some (zcW c)) p q (mk (nW c) f) = (told, l, y, 0, ⟨mk (nW c) f⟩) := s4
              have s5' : zp0 (some (zcW c)) p q (mk (nW c) f) = true := s5
              simp only [s4', s5', cnT, beq_self_eq_true, Bool.not_true, cnF]
              exact ⟨f, hg, same (-1)⟩
            . have d4 : (kd == 4) = false := by
               cases e : (kd == 4) with
               | false => rfl
               | true => exact absurd (eq_of_beq e) c4
              rw [d4, cnF]
              by_cases c6 : kd = 6
              . subst c6
                rw [show ((6 : Int) == 6) = true from rfl, cnT]
                obtain ⟨told, l, y, s1⟩ := zBV g w hD hg p q
                obtain ⟨s4, s5⟩ := zk s1
                have s4' : zt8 (some (zcW c)) p q (mk (nW c) f) = (told, l, y, 0, ⟨mk (nW c) f⟩) := s4
                have s5' : zw5 (some (zcW c)) p q (mk (nW c) f) = true := s5
                simp only [s4', s5', cnT, beq_self_eq_true, Bool.not_true, cnF]
                exact ⟨f, hg, same (-1)⟩
              . have d6 : (kd == 6) = false := by
                 cases e : (kd == 6) with
                 | false => rfl
                 | true => exact absurd (eq_of_beq e) c6
                rw [d6, cnF]
                exact ⟨f, hg, same (-1)⟩
   obtain ⟨f', z1, z2⟩ := st
   exact ⟨_, ⟨f', rfl, z1⟩, z2⟩)
  obtain ⟨xs, _, e⟩ := loop (mk (nW c) fun _ => 0) ⟨_, rfl, zoR g⟩
  simp only [o3', o4', cnT, cnF, Bool.not_true, hd, hmm, Option.isNone_some, Option.getD_some]
  refine (show zjM c script (.l0 0 (mk (nW c) fun _ => 0)) = _ from e).trans ?_
  rw [zio]
  simp only [zkY, zS (Nat.le_refl _), cnF, id]
theorem zD7 {n : Int} (h : Fit (.v (.int .u32 n))) : 0 <= n /\ n < 4294967296 := by
 cases h with
 | int _ _ h0 h1 =>
  simp [IntKind.min, IntKind.max, IntKind.signed, IntKind.bits] at h0 h1
  exact ⟨by omega, by omega⟩
theorem zBa {xs : List Bulkheadlaw21Op} (h : Fit (.sl .sBulkheadlaw21Op xs)) : ∀ i, i < xs.length -> ∀ j, 0 <= zN (zaj xs i).message j /\ zN (zaj xs i).message j < 4294967296 := fun i hi j => by
 have h5 : Fit (.sl (.i .u32) (zaj xs i).message) := (ze6 h).2 i 5 hi (by decide)
 by_cases hj : j < (zaj xs i).message.length
 . exact zD7 ((ze6 h5).2 j 0 hj (by decide))
 . have : zN (zaj xs i).message j = 0 := by simp [zN, List.getD, Nat.not_lt.1 hj]
   rw [this]; omega
theorem zve {c : Config} (hc : zbK c) {script : List Bulkheadlaw21Op} (hs : script.length <= 140737488355328) (hf : Fit (.sl .sBulkheadlaw21Op script)) : zBH c script = some true := zyQ hc (by omega) (zBa hf)
end Go.Proofs.YtganhedldgbfpaaGreatDoor
end
