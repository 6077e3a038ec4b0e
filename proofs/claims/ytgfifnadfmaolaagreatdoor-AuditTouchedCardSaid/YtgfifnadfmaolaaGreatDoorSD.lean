/- The soundness of the abstract evaluator, part 13: regions; heads; code. -/
import Derived.Test.YtgfifnadfmaolaaGreatDoorSC
import Derived.LoopN
namespace Go.Proofs.YtgfifnadfmaolaaGreatDoor
open Go.RowKit
set_option linter.unusedVariables false
set_option linter.unusedSimpArgs false
section
variable {P : Program} {GL : List AV} {G : Gam} {B : Bs} {F : Nat → Prop} {β : Gh} {st : St} {a : Act} {w : World}
theorem ready_iff {ops : Array Oper} {listed : Array Bool} {i : Nat} : i ∈ Region.ready .any ops listed ↔ i < ops.size ∧ listed.getD i true = false ∧ ∃ o, ops[i]? = some o ∧ ∀ e, e ∈ o.after.toList → Region.binds .any e = true → listed.getD e.on false = true := by
  unfold Region.ready
  simp only [List.mem_filter, List.mem_range, Bool.and_eq_true, Bool.not_eq_true']
  constructor
  · rintro ⟨h1, h2, h3⟩
    refine ⟨h1, h2, ?_⟩
    cases ho : ops[i]? with
    | none => rw [ho] at h3; cases h3
    | some o =>
      rw [ho] at h3
      simp only [Option.map_some, Option.getD_some, Array.all_eq_true_iff_forall_mem, Bool.or_eq_true, Bool.not_eq_true'] at h3
      exact ⟨o, rfl, fun e he hb => by
        rcases h3 e (by simpa using he) with h4 | h4
        · rw [hb] at h4; cases h4
        · exact h4⟩
  · rintro ⟨h1, h2, o, ho, h3⟩
    refine ⟨h1, h2, ?_⟩
    rw [ho]
    simp only [Option.map_some, Option.getD_some, Array.all_eq_true_iff_forall_mem, Bool.or_eq_true, Bool.not_eq_true']
    intro e he
    cases hb : Region.binds .any e with
    | false => exact .inl rfl
    | true => exact .inr (h3 e (by simpa using he) hb)
theorem lastE_none {S : Nat → St} {D : Nat → Option Nat} {L : Nat → Bool} (h : ∀ i, L i = false) (t : Nat) : ∀ n, lastE S D L t n = (S 0).get t
  | 0 => rfl
  | n + 1 => by rw [lastE, if_neg (fun q => by rw [h n] at q; cases q.1)]; exact lastE_none h t n
theorem lastH_none {S : Nat → St} {W : Nat → List Nat} {L : Nat → Bool} (h : ∀ i, L i = false) (b : Nat) : ∀ n, lastH S W L b n = (S 0).heap.getD b .dead
  | 0 => rfl
  | n + 1 => by rw [lastH, if_neg (fun q => by rw [h n] at q; cases q.1)]; exact lastH_none h b n
theorem evReg_sound (hG : GOk P GL G) {id : Nat} {ops : Array Oper} {draw : Bool} {k : St → Option Ans} {r : Ans} {Q : Exit → Act → World → Prop} (N : Nat)
    (hk : ∀ st' a' w' F' β', Rel B F' β' st' a' w' → st'.gl = GL → st'.np = N → k st' = some r → Q .normal a' w')
    (h : Rel B F β st a w) (hgl : st.gl = GL) (hnp : st.np = N) (hr : evReg P G ops draw st k = some r) : (Code.region id ops draw).wp P Q a w := by
  cases draw with
  | false =>
    refine wp_region_list ?_
    have := evOps_sound hG ops.toList (Q := Q) (k := k) N hk ops.toList F β st a w h hgl hnp hr
    simpa using this
  | true =>
    simp only [evReg] at hr
    split at hr
    · rename_i hmo hed
      obtain ⟨fs, S0, hfl, hS0, hstep, hK⟩ := evOpsR_some hr
      simp only [List.nil_append] at hK
      split at hK
      · rename_i hind
        let n := ops.size
        have hln : ops.toList.length = n := by simp [n]
        rw [hln] at hK hfl
        let S : Nat → St := fun i => S0 (min i n)
        have hSi : ∀ i, i ≤ n → S i = S0 i := fun i hi => by show S0 (min i n) = _; rw [Nat.min_eq_left hi]
        have hSge : ∀ i, n ≤ i → S (i + 1) = S i := fun i hi => by show S0 (min (i + 1) n) = S0 (min i n); rw [Nat.min_eq_right (by omega), Nat.min_eq_right hi]
        have hS00 : S 0 = st := (hSi 0 (Nat.zero_le _)).trans hS0
        have hstep' : ∀ i o, ops[i]? = some o → Step1 P G ops.toList (S i) o (fs.getD i ⟨[], []⟩) (S (i + 1)) := fun i o ho => by
          have hi : i < n := (Array.getElem?_eq_some_iff.1 ho).1
          rw [hSi i (by omega), hSi (i + 1) hi]
          exact hstep i o (by simpa using ho)
        have hind' : ∀ m k o f o' f', m < k → ops[m]? = some o → fs[m]? = some f → ops[k]? = some o' → fs[k]? = some f' → Nat.testBit ((Region.before ops).getD k 0) m = true ∨ indep ops.toList o o' f f' = true := fun m k o f o' f' hmk h1 h2 h3 h4 => by
          have := indepAll_get hind m k o f o' f' hmk (by simpa using h1) h2 (by simpa using h3) h4
          have e : (Region.before ops).toList.getD (0 + k) 0 = (Region.before ops).getD k 0 := by rw [Nat.zero_add, List.getD_eq_getElem?_getD, Array.getElem?_toList, Array.getD_eq_getD_getElem?]
          rw [e, Nat.zero_add] at this
          exact this
        have hedge : ∀ i o, ops[i]? = some o → ∀ e, e ∈ o.after.toList → Region.binds .any e = true → e.on < i := fun i o ho e he hb => by
          have := edgesB_get hed i o (by simpa using ho) e he hb
          omega
        have hlast : ∀ (L : Nat → Bool), (∀ i, i < n → L i = true) → ∀ {F' β' T a' w'}, Mid B S (fun i => (ops[i]?).bind (·.dst)) (fun i => (fs.getD i ⟨[], []⟩).wr) n L F' β' T a' w' → T = S n := fun L hall F' β' T a' w' hM => by
          have hkeep := fun i o' (ho' : ops[i]? = some o') => (hstep' i o' ho').keeps
          have hE : ∀ t i, (ops[i]?).bind (·.dst) ≠ some t → (S (i + 1)).get t = (S i).get t := fun t i hd => by
            by_cases hi : i < n
            · have hio : ops[i]? = some ops[i] := by simp [show i < ops.size by omega]
              exact (hkeep i _ hio).2.2.2.2.2.1 t fun e => hd (by rw [hio]; exact e)
            · rw [hSge i (by omega)]
          have hH : ∀ b i, b ∉ (fs.getD i ⟨[], []⟩).wr → (S (i + 1)).heap.getD b .dead = (S i).heap.getD b .dead := fun b i hb => by
            by_cases hi : i < n
            · have hio : ops[i]? = some ops[i] := by simp [show i < ops.size by omega]
              exact (hkeep i _ hio).2.2.2.2.2.2 b hb
            · rw [hSge i (by omega)]
          have hsame : ∀ i, (S i).env.length = (S 0).env.length ∧ (S i).gl = (S 0).gl ∧ (S i).np = (S 0).np ∧ ((S i).df = (S 0).df ∧ (S i).dp = (S 0).dp) := fun i => by
            induction i with
            | zero => exact ⟨rfl, rfl, rfl, rfl, rfl⟩
            | succ i ih =>
              by_cases hi : i < n
              · have hio : ops[i]? = some ops[i] := by simp [show i < ops.size by omega]
                obtain ⟨k1, k2, k3, k4, _⟩ := hkeep i _ hio
                exact ⟨k1.trans ih.1, k2.trans ih.2.1, k3.trans ih.2.2.1, k4.1.trans ih.2.2.2.1, k4.2.trans ih.2.2.2.2⟩
              · rw [hSge i (by omega)]; exact ih
          obtain ⟨s1, s2, s3, s4⟩ := hsame n
          exact st_ext (hM.env.trans s1.symm) hM.heap (fun t => (hM.e t).trans (lastE_all (hE t) fun i hi _ => hall i hi)) (fun b => (hM.h b).trans (lastH_all (hH b) fun i hi _ => hall i hi)) (hM.gl.trans s2.symm) (hM.np.trans s3.symm) (hM.df.1.trans s4.1.symm) (hM.df.2.trans s4.2.symm)
        have hend : ∀ (L : Nat → Bool), (∀ i, i < n → L i = true) → ∀ {F' β' T a' w'}, Mid B S (fun i => (ops[i]?).bind (·.dst)) (fun i => (fs.getD i ⟨[], []⟩).wr) n L F' β' T a' w' → Q .normal a' w' := fun L hall F' β' T a' w' hM => by
          have e := hlast L hall hM
          refine hk T a' w' F' β' hM.rel (by rw [hM.gl, hS00]; exact hgl) (by rw [hM.np, hS00]; exact hnp) ?_
          rw [e, hSi n (Nat.le_refl _)]
          exact hK
        have main : ∀ (fuel : Nat) (listed : Array Bool), listed.size = n → listed.toList.count false = fuel →
            (∀ i, listed.getD i false = true → ∀ p, Nat.testBit ((Region.before ops).getD i 0) p = true → listed.getD p false = true) →
            ∀ F' β' T a' w', Mid B S (fun i => (ops[i]?).bind (·.dst)) (fun i => (fs.getD i ⟨[], []⟩).wr) n (fun i => listed.getD i false) F' β' T a' w' → wpAny P .any ops Q fuel listed a' w' := by
          intro fuel
          induction fuel with
          | zero =>
            intro listed hsz hc hdc F' β' T a' w' hM
            have hall : ∀ i, i < n → listed.getD i false = true := fun i hi => by
              have hmem : listed.toList[i]'(by simpa [hsz] using hi) ∈ listed.toList := List.getElem_mem _
              have hnf : false ∉ listed.toList := List.count_eq_zero.1 hc
              have : listed[i]'(by omega) = true := by
                cases hx : listed[i]'(by omega) with
                | true => rfl
                | false => rw [Array.getElem_toList, hx] at hmem; exact absurd hmem hnf
              simp [Array.getD, show i < listed.size by omega, this]
            refine ⟨?_, hend _ hall hM⟩
            cases hq : Region.ready .any ops listed with
            | nil => rfl
            | cons x xs =>
              have hx : x ∈ Region.ready .any ops listed := by rw [hq]; simp
              obtain ⟨h1, h2, _⟩ := ready_iff.1 hx
              have := hall x h1
              simp only [Array.getD, show x < listed.size by omega, dite_true] at this h2
              rw [h2] at this; cases this
          | succ fuel ih =>
            intro listed hsz hc hdc F' β' T a' w' hM
            refine ⟨fun hnil => ?_, fun i hi => ?_⟩
            · refine hend _ (fun i => ?_) hM
              induction i using Nat.strongRecOn with
              | _ i ihi =>
                intro hin
                cases hx : listed.getD i false with
                | true => rfl
                | false =>
                  exfalso
                  have hio : ops[i]? = some ops[i] := by simp
                  have : i ∈ Region.ready .any ops listed := ready_iff.2 ⟨hin, by simpa [Array.getD, show i < listed.size by omega] using hx, _, hio, fun e he hb => ihi e.on (hedge i _ hio e he hb) (by have := hedge i _ hio e he hb; omega)⟩
                  rw [hnil] at this; cases this
            · obtain ⟨h1, h2, o, ho, h3⟩ := ready_iff.1 hi
              have hisz : i < listed.size := by omega
              have h2' : listed.getD i false = false := by simpa [Array.getD, hisz] using h2
              have hset : ∀ p, (listed.setIfInBounds i true).getD p false = true ↔ listed.getD p false = true ∨ p = i := fun p => by
                by_cases hp : p = i
                · subst hp; simp [Array.getD, hisz]
                · simp only [Array.getD, Array.size_setIfInBounds, hp, or_false]
                  by_cases hps : p < listed.size
                  · simp [hps, Array.getElem_setIfInBounds, show ¬ i = p from fun e => hp e.symm]
                  · simp [hps]
              refine mid_step hG (by rw [hS00]; exact hgl) (by rw [hS00]; exact h.hn) rfl hfl hstep' hSge hind' (fun p hp => ?_) hdc ho h2' h3 hset hM fun F2 β2 T2 a2 w2 hM2 => ih _ (by simp [hsz]) ?_ (fun p hp q hq => ?_) F2 β2 T2 a2 w2 hM2
              · by_cases hps : p < listed.size
                · omega
                · simp [Array.getD, hps] at hp
              · have e : (listed.setIfInBounds i true).toList = listed.toList.set i true := by simp
                have hlt : i < listed.toList.length := by simpa using hisz
                have hb : listed.toList[i] = false := by simpa [Array.getD, hisz] using h2
                rw [e, List.count_set hlt, hc, hb]; simp
              · rw [hset] at hp ⊢
                rcases hp with hp | hp
                · exact .inl (hdc p hp q hq)
                · subst hp
                  obtain ⟨o', ho', e, h4, h5, h6⟩ := before_bits ops p q hq
                  rw [ho] at ho'; simp at ho'; subst ho'
                  have he := h3 e h4 h5
                  rcases h6 with rfl | h6
                  · exact .inl he
                  · exact .inl (hdc _ he q h6)
        refine wp_region_any hmo (main ops.size _ (by simp [n]) (by simp) (fun i hi => ?_) F β { st with heap := st.heap ++ List.replicate ((S n).heap.length - st.heap.length) .dead } a _ ⟨(h.pad _).later ((Below.refl _ _).drew), by rw [hS00], ?_, by rw [hS00], by rw [hS00], ⟨by rw [hS00], by rw [hS00]⟩, fun t => ?_, fun b => ?_, fun b hb => .inl (by rw [hS00]; exact h.heap.live b hb)⟩)
        · exfalso
          by_cases hin : i < ops.size <;> simp [Array.getD, hin] at hi
        · have hmono : ∀ i, (S 0).heap.length ≤ (S i).heap.length := fun i => by
            induction i with
            | zero => exact Nat.le_refl _
            | succ i ih =>
              by_cases hi : i < n
              · have hio : ops[i]? = some ops[i] := by simp [show i < ops.size by omega]
                exact Nat.le_trans ih (hstep' i _ hio).keeps.2.2.2.2.1
              · rw [hSge i (by omega)]; exact ih
          have := hmono n
          rw [hS00] at this
          simp; omega
        · have hno : ∀ i, (Array.replicate ops.size false).getD i false = false := fun i => by
            by_cases hin : i < ops.size <;> simp [Array.getD, hin]
          rw [lastE_none hno, hS00]; rfl
        · have hno : ∀ i, (Array.replicate ops.size false).getD i false = false := fun i => by
            by_cases hin : i < ops.size <;> simp [Array.getD, hin]
          rw [lastH_none hno, hS00]
          show (st.heap ++ _).getD b .dead = _
          rw [getD_append]
          split
          · rfl
          · rename_i hb
            have : st.heap.getD b .dead = .dead := by simp [List.getD, List.getElem?_eq_none (Nat.le_of_not_lt hb)]
            rw [this]
            simp only [List.getD, List.getElem?_replicate]
            split <;> rfl
      · cases hK
    · cases hr
end
end Go.Proofs.YtgfifnadfmaolaaGreatDoor
