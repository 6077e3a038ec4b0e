/- The laws of the audit, plain law: the document's layout, its partitions whole. -/
import Derived.Test.YtgfifnadfmaolaaGreatDoorB5
namespace Go.Proofs.YtgfifnadfmaolaaGreatDoor
open Go.RowKit
set_option linter.unusedVariables false
set_option linter.unusedSimpArgs false
set_option linter.unusedSectionVars false
noncomputable def updP (xs : List PartitionPlace) (x : Pc) : List PartitionPlace :=
  let j := x.2.2.index.toNat
  let y := atPartitionPlace xs j
  if x.2.2.kind = 3 then List.set xs j ⟨(x.1 : Int), y.save, y.state, y.root, y.tables⟩
  else if x.2.2.kind = 4 then List.set xs j ⟨y.lock, (x.1 : Int), y.state, y.root, y.tables⟩
  else if x.2.2.kind = 5 then List.set xs j ⟨y.lock, y.save, (x.1 : Int), y.root, y.tables⟩
  else if x.2.2.kind = 9 then (if y.root = 0 then List.set xs j ⟨y.lock, y.save, y.state, ((x.1 / 16 : Nat) : Int), y.tables⟩ else List.set xs j ⟨y.lock, y.save, y.state, y.root, y.tables ++ [((x.1 / 16 : Nat) : Int)]⟩)
  else xs
section
variable {c : Config} (g : Sound c) (hk : 0 ≤ c.kernel ∧ c.kernel < 1024)
include g hk
theorem of_step2 {i : Nat} (hi : i < (refP c).length) {x0 x1 x3 : Int} {x4 : List PartitionPlace} {x5 : List ChannelPlace} (h : Inv c i x0 x4 x5) (hi4 : i ≤ 4000) : ∃ x0' x3' x5', Inv c (i + 1) x0' (updP x4 (refP c)[i]) x5' ∧ spL30 c (.l4 x0 x1 (i : Int) x3 x4 x5) = spL30 c (.l4 x0' (((refP c)[i].1 + (refP c)[i].2.1 : Nat) : Int) ((i + 1 : Nat) : Int) x3' (updP x4 (refP c)[i]) x5') := by
  obtain ⟨p1, p2⟩ := sp_of (pieces_r g hk)
  have p1' : sp47 c = (refP c).map mkR := p1
  have hm : (refP c)[i] ∈ refP c := List.getElem_mem hi
  have he := ref_end g hk hm
  have e81 : ∀ (a b d : Int) x y, spL30 c (.l81 a b (i : Int) d x y) = spL30 c (.l4 a b ((i + 1 : Nat) : Int) d x y) := fun a b d x y => by
    rw [spL30_eq]
    simp only [bod30, wrap_succ i (show i < 4611686018427387904 by omega)]
  have hl : i < ((refP c).map mkR).length := by rw [List.length_map]; exact hi
  have ew : IntKind.i64.wrap ((mkR (refP c)[i]).at_ + (mkR (refP c)[i]).size) = (((refP c)[i].1 + (refP c)[i].2.1 : Nat) : Int) := wrap_nat _ _ (by simp only [mkR]; omega) (by omega)
  have hr : ∀ {x : Int} {n : Nat}, 0 ≤ x → x < n → inR x n = true := inR_int
  have hok := pc_ok (ref_mem.1 hm)
  have eq16 : bop .quo .i64 (((refP c)[i].1 : Nat) : Int) 16 = (((refP c)[i].1 / 16 : Nat) : Int) := quo_nat _ (by omega)
  rw [spL30_eq]
  simp only [bod30, p1', Int.toNat_natCast, lt_t hl, inR_of hl, cond_true, atPc_get hi, ew, e81, Nat.beq_refl]
  have ho : (mkR (refP c)[i]).owner = (refP c)[i].2.2 := rfl
  have ha : (mkR (refP c)[i]).at_ = (((refP c)[i].1 : Nat) : Int) := rfl
  rw [ho, ha, eq16]
  have h4 := h.l4
  have h5 := h.l5
  generalize (refP c)[i] = x at *
  rcases hok with k | ⟨k, j, hj, ij⟩ | ⟨k, j, hj, ij⟩ | ⟨k, hc⟩
  · have e : updP x4 x = x4 := by unfold updP; rw [k]; rfl
    rw [e, k]; refine ⟨_, _, _, ?_, rfl⟩; exact h.up
  · have hj4 : j < x4.length := by omega
    have hmem := h.t _ (atPl_mem hj4)
    rw [ij]
    simp only [inR_of hj4, Int.toNat_natCast, cond_true]
    rcases k with k | k | k | k
    · have e : updP x4 x = List.set x4 j ⟨(x.1 : Int), (atPartitionPlace x4 j).save, (atPartitionPlace x4 j).state, (atPartitionPlace x4 j).root, (atPartitionPlace x4 j).tables⟩ := by unfold updP; rw [k, ij]; rfl
      rw [e, k]; refine ⟨_, _, _, ?_, rfl⟩; exact h.set4 (Nat.le_succ_of_le hmem)
    · have e : updP x4 x = List.set x4 j ⟨(atPartitionPlace x4 j).lock, (x.1 : Int), (atPartitionPlace x4 j).state, (atPartitionPlace x4 j).root, (atPartitionPlace x4 j).tables⟩ := by unfold updP; rw [k, ij]; rfl
      rw [e, k]; refine ⟨_, _, _, ?_, rfl⟩; exact h.set4 (Nat.le_succ_of_le hmem)
    · have e : updP x4 x = List.set x4 j ⟨(atPartitionPlace x4 j).lock, (atPartitionPlace x4 j).save, (x.1 : Int), (atPartitionPlace x4 j).root, (atPartitionPlace x4 j).tables⟩ := by unfold updP; rw [k, ij]; rfl
      rw [e, k]; refine ⟨_, _, _, ?_, rfl⟩; exact h.set4 (Nat.le_succ_of_le hmem)
    · have b1 : ∀ y : Int, leB (((atPartitionPlace x4 j).tables.length + [y].length) * 8) 140737488355328 = true := room1 (by omega) (by omega)
      simp only [b1, cond_true]
      by_cases hroot : (atPartitionPlace x4 j).root = 0
      · have e : updP x4 x = List.set x4 j ⟨(atPartitionPlace x4 j).lock, (atPartitionPlace x4 j).save, (atPartitionPlace x4 j).state, ((x.1 / 16 : Nat) : Int), (atPartitionPlace x4 j).tables⟩ := by
          unfold updP; rw [k, ij]
          show (if (atPartitionPlace x4 j).root = 0 then _ else _) = _
          rw [if_pos hroot]; rfl
        have hb : ((atPartitionPlace x4 j).root == 0) = true := by rw [hroot]; rfl
        rw [e, k, hb]; refine ⟨_, _, _, ?_, rfl⟩; exact h.set4 (Nat.le_succ_of_le hmem)
      · have e : updP x4 x = List.set x4 j ⟨(atPartitionPlace x4 j).lock, (atPartitionPlace x4 j).save, (atPartitionPlace x4 j).state, (atPartitionPlace x4 j).root, (atPartitionPlace x4 j).tables ++ [((x.1 / 16 : Nat) : Int)]⟩ := by
          unfold updP; rw [k, ij]
          show (if (atPartitionPlace x4 j).root = 0 then _ else _) = _
          rw [if_neg hroot]; rfl
        have hb : ((atPartitionPlace x4 j).root == 0) = false := beq_eq_false_iff_ne.2 hroot
        rw [e, k, hb]; refine ⟨_, _, _, ?_, rfl⟩; exact h.set4 (by rw [List.length_append]; exact Nat.succ_le_succ hmem)
  · have hj5 : j < x5.length := by omega
    have hmem := h.d _ (atCh_mem hj5)
    have e : updP x4 x = x4 := by unfold updP; rcases k with k | k <;> rw [k] <;> rfl
    rw [e, ij]
    simp only [inR_of hj5, Int.toNat_natCast, cond_true]
    rcases k with k | k
    · rw [k]; refine ⟨_, _, _, ?_, rfl⟩; exact Inv.setc (x0 := x0) (h.set5 (Nat.le_succ_of_le hmem)) ⟨Int.natCast_nonneg _, fun _ => Int.ofNat_lt.2 hj⟩
    · rw [k]; refine ⟨_, _, _, ?_, rfl⟩; exact h.set5 (Nat.le_succ_of_le hmem)
  · obtain ⟨c1, c2⟩ := h.ch
    have c2 := c2 hc
    have hmem := h.d _ (atCh_mem (xs := x5) (i := x0.toNat) (by omega))
    have b1 : ∀ y : DestPlace, leB (((atChannelPlace x5 x0.toNat).dests.length + [y].length) * 24) 140737488355328 = true := room1 (by omega) (by omega)
    have e : updP x4 x = x4 := by unfold updP; rw [k]; rfl
    rw [e, k]
    simp only [hr c1 (show x0 < (x5.length : Nat) by omega), b1, cond_true]
    refine ⟨_, _, _, ?_, rfl⟩; exact h.set5 (by rw [List.length_append]; exact Nat.succ_le_succ hmem)
theorem of_loop2 : ∀ m i, i + (m + 1) = (refP c).length → ∀ (x0 x1 x3 : Int) (x4 : List PartitionPlace) (x5 : List ChannelPlace), Inv c i x0 x4 x5 → ∃ L : Layout, spL30 c (.l4 x0 x1 (i : Int) x3 x4 x5) = some (L, 0) ∧ L.partitions = ((refP c).drop i).foldl updP x4 := by
  have hlen := ref_len g hk
  intro m
  induction m with
  | zero =>
    intro i hi x0 x1 x3 x4 x5 h
    have hil : i < (refP c).length := by omega
    obtain ⟨x0', x3', x5', h', e⟩ := of_step2 g hk hil (x0 := x0) (x1 := x1) (x3 := x3) h (by omega)
    obtain ⟨p1, p2⟩ := sp_of (pieces_r g hk)
    have p1' : sp47 c = (refP c).map mkR := p1
    rw [e]
    have hf : decide (((i + 1 : Nat) : Int) < (((refP c).map mkR).length : Int)) = false := lt_f (by rw [List.length_map]; omega)
    rw [spL30_eq]
    simp only [bod30, p1', hf, cond_false, id]
    refine ⟨_, rfl, ?_⟩
    rw [List.drop_eq_getElem_cons hil, List.drop_eq_nil_of_le (by omega)]
    rfl
  | succ m ih =>
    intro i hi x0 x1 x3 x4 x5 h
    have hil : i < (refP c).length := by omega
    obtain ⟨x0', x3', x5', h', e⟩ := of_step2 g hk hil (x0 := x0) (x1 := x1) (x3 := x3) h (by omega)
    rw [e, List.drop_eq_getElem_cons hil]
    exact ih (i + 1) (by omega) _ _ _ _ _ h'
end
end Go.Proofs.YtgfifnadfmaolaaGreatDoor
