import Derived.Test.YtganhedldgbfpaaGreatDoorS6
import Derived.Laws.CopyRow
import Derived.Laws.IdiomCopy
set_option linter.unusedVariables false
set_option linter.unusedSimpArgs false
noncomputable section
namespace Go.Proofs.YtganhedldgbfpaaGreatDoor
open Go.RowKit
section
variable {P : Program} {GL : List AV} {G : Gam} {B : Bs} {F : Nat -> Prop} {β : Gh} {st : St} {a : Act} {w : World}
theorem zzq (hh : HOk F w β st.heap) {ty : Ty} {ys : List ty.T} {xv : AV} {v0 : Value} (hv : V F w β xv v0) (h2 : st.src ty xv = some ys) : ∃ (A : Option Addr) (c : Nat) (news : List Value), v0 = .slice A ys.length c /\ news.length = ys.length * ty.sz /\ (A = none -> ys.length = 0) /\ (∀ ad, A = some ad -> ∀ j u, news[j]? = some u -> w.cell? (ad.add j) = some u) /\
 (∀ i j, i < ys.length -> j < ty.sz -> D F w ((ty.enc (nth ys i)).getD j .undef) (news.getD (i * ty.sz + j) undef)) := by
 have fromD : ∀ v, D F w (.sl ty ys) v -> ∃ (A : Option Addr) (c : Nat) (news : List Value), v = .slice A ys.length c /\ news.length = ys.length * ty.sz /\ (A = none -> ys.length = 0) /\ (∀ ad, A = some ad -> ∀ j u, news[j]? = some u -> w.cell? (ad.add j) = some u) /\
  (∀ i j, i < ys.length -> j < ty.sz -> D F w ((ty.enc (nth ys i)).getD j .undef) (news.getD (i * ty.sz + j) undef)) := by
  intro v hd
  cases hd with
  | sl0 _ A c => exact ⟨A, c, [], rfl, by simp, fun _ => rfl, fun ad _ j u hj => by simp at hj, fun i j hi => by simp at hi⟩
  | sl _ _ b o c Y hF hb' hl hcap hc hd =>
   refine ⟨_, c, (List.range (ys.length * ty.sz)).map fun k => Y (k / ty.sz) (k % ty.sz), rfl, by simp, (fun hA => by cases hA), fun ad hA j u hj => ?_, fun i j hi' hj => ?_⟩
   . cases hA
     have hjl : j < ys.length * ty.sz := by
      have := (List.getElem?_eq_some_iff.1 hj).1
      simpa using this
     simp [hjl] at hj
     subst hj
     rw [add_lit]
     have := hc (j / ty.sz) (j % ty.sz) (Nat.div_lt_of_lt_mul (by rw [Nat.mul_comm]; exact hjl)) (Nat.mod_lt _ (zaX ty))
     rw [Nat.mul_comm, Nat.div_add_mod] at this
     exact this
   . have hij := zbr hi' hj
     have e1 : ((List.range (ys.length * ty.sz)).map fun k => Y (k / ty.sz) (k % ty.sz)).getD (i * ty.sz + j) undef = Y i j := by
      have hd1 : (i * ty.sz + j) / ty.sz = i := by rw [Nat.mul_comm, Nat.mul_add_div (zaX ty), Nat.div_eq_of_lt hj]; rfl
      have hd2 : (i * ty.sz + j) % ty.sz = j := by rw [Nat.mul_comm, Nat.mul_add_mod, Nat.mod_eq_of_lt hj]
      simp [List.getD, hij, hd1, hd2]
     rw [e1]
     exact hd i j hi' hj
 unfold St.src at h2
 split at h2
 . rename_i t' xs'
   unfold zeh at h2
   split at h2
   . rename_i e1 _
     subst e1
     simp at h2; subst h2
     exact fromD _ (sl_D hv)
   . cases h2
 . rename_i b
   obtain ⟨_, hvy, _⟩ := zdq hv
   split at h2
   . rename_i e' t' xs' hb'
     unfold zeh at h2
     split at h2
     . rename_i e1 _
       subst e1
       simp at h2; subst h2
       obtain ⟨Ws, g1, g2, _, g3⟩ := hh.blk b _ hb'
       obtain ⟨A, c, hA, hA0, hA1⟩ := zmK g1
       exact ⟨A, c, Ws, by rw [hvy, hA], g1.1, hA0, hA1, fun i j hi hj => (g3 i j hi hj).toD rfl⟩
     . cases h2
   . rename_i t' xs' hb'
     unfold zeh at h2
     split at h2
     . rename_i e1 _
       subst e1
       simp at h2; subst h2
       rw [hvy]
       exact fromD _ (hh.blk b _ hb')
     . cases h2
   . cases h2
 . rename_i c
   simp at h2; subst h2
   rw [V_v hv]
   exact fromD _ (.sl0 ty none c)
 . cases h2
theorem zvo {e N : Nat} {v : Value} {Vs : List Value} (hown : w.ownsRow 0 e 1 v N Vs) {p n c : Nat} (hv : v = .slice (some ⟨p, 0, none⟩) n c) {o : Nat} {vs : List Value} (hf : o + vs.length <= N) :
 n = N /\ ∃ cur : Array Value, w.heap[p]? = some (.cells cur e (0, 0)) /\ o + vs.length <= cur.size /\
  ∃ Us, (w.setRow p (cur.toList.take o ++ vs ++ cur.toList.drop (o + vs.length)).toArray).ownsRow 0 e 1 v N Us /\ ∀ j, j < N -> Us.getD j undef = if o <= j /\ j < o + vs.length then vs.getD (j - o) undef else Vs.getD j undef := by
 rcases hown.2 with ⟨hvn, _⟩ | ⟨g, cap, cur, hvg, hg, hh, hnc, hcm, hcs, htk⟩
 . rw [hv] at hvn; cases hvn
 rw [hv] at hvg
 simp only [Value.slice.injEq, Option.some.injEq, Addr.mk.injEq, true_and, and_true] at hvg
 obtain ⟨rfl, rfl, rfl⟩ := hvg
 rw [Nat.mul_one] at htk hcs
 have hrow : (w.setRow p (cur.toList.take o ++ vs ++ cur.toList.drop (o + vs.length)).toArray).heap[p]? = some (.cells (cur.toList.take o ++ vs ++ cur.toList.drop (o + vs.length)).toArray e (0, 0)) := setRow_heap w _ cur _ e _ hh
 refine ⟨rfl, cur, hh, by omega, (cur.toList.take o ++ vs ++ cur.toList.drop (o + vs.length)).take n, ?_, fun j hj => ?_⟩
 . rw [hv]
   refine ⟨by simp; omega, .inr ⟨p, c, _, rfl, hg, hrow, hnc, hcm, by simp; omega, by simp⟩⟩
 . have := ziD (l := cur.toList) (vs := vs) (o := o) (by simp; omega) j undef
   rw [← htk]
   simp only [List.getD, List.getElem?_take, if_pos hj] at this ⊢
   exact this
theorem zBM {t : Ty} {xs zs : List t.T} {o i : Nat} (h : o + zs.length <= xs.length) (hi : i < xs.length) : nth (zbP xs o zs) i = if o <= i /\ i < o + zs.length then nth zs (i - o) else nth xs i := by
 unfold zbP nth
 simp only [List.getD]
 by_cases hr : o <= i /\ i < o + zs.length
 . rw [if_pos hr, List.getElem?_append_right (by simp; omega), List.getElem?_append_left (by simp; omega)]
   congr 2
   simp; omega
 . rw [if_neg hr]
   rcases Nat.lt_or_ge i o with h1 | h1
   . rw [List.getElem?_append_left (by simp; omega), List.getElem?_take, if_pos h1]
   . rw [List.getElem?_append_right (by simp; omega), List.getElem?_append_right (by simp; omega), List.getElem?_drop]
     congr 2
     simp; omega
theorem zBO {α : Type} (xs : List α) (o : Nat) : zbP xs o [] = xs := by simp [zbP]
theorem zBN {α : Type} {xs zs : List α} {o : Nat} (h : o + zs.length <= xs.length) : (zbP xs o zs).length = xs.length := by simp [zbP]; omega
theorem zyG {x : AV} {v : Value} (hv : V F w β x v) {b q : Nat} {m : Option Nat} (hd : zvZ x = some (b, q, m)) {e : TypeId} {ty : Ty} {xs : List ty.T} (hb : BlkOk F w β b (.row e ty [] [] xs)) : β.l b /\ ∃ A c, v = .slice A (m.getD xs.length) c /\ (0 < m.getD xs.length -> ∃ p N c, β.v b = .slice (some ⟨p, 0, none⟩) N c /\ q + m.getD xs.length <= N /\ A = some ⟨p, q, none⟩) := by
 unfold zvZ at hd
 split at hd
 . rename_i b'
   simp at hd
   obtain ⟨rfl, rfl, rfl⟩ := hd
   obtain ⟨h1, h2, A, n, c, h3⟩ := zdq hv
   obtain ⟨Vs, hown, _⟩ := hb
   rw [h2] at h3
   rcases hown.2 with ⟨h0, hn0⟩ | ⟨g, cap, cur, hvg, _⟩
   . refine ⟨h1, none, 0, by rw [h2, h0]; simp; exact hn0.symm, fun hp => ?_⟩
     simp at hp; omega
   . exact ⟨h1, some ⟨g, 0, none⟩, cap, by rw [h2, hvg]; simp, fun _ => ⟨g, _, cap, hvg, by simp, rfl⟩⟩
 . rename_i b' sz o n
   split at hd
   . rename_i hs
     have hs := Nat.eq_of_beq_eq_true hs
     subst hs
     simp at hd
     obtain ⟨rfl, rfl, rfl⟩ := hd
     obtain ⟨A, c, h1, h2, h3, h4⟩ := zIt hv
     exact ⟨h1, A, c, by simpa using h3, fun h0 => by simpa using h4 h0⟩
   . cases hd
 . cases hd
theorem zju {st : St} {b : Nat} {k : Blk} (h : st.heap[b]? = some k) : ({ st with heap := st.heap.set b k } : St) = st := by
 obtain ⟨hb, he⟩ := List.getElem?_eq_some_iff.1 h
 have : st.heap.set b k = st.heap := by rw [← he]; exact List.set_getElem_self hb
 rw [this]
theorem zwr (h : Rel B F β st a w) {b : Nat} {e : TypeId} {ty : Ty} {xs zs : List ty.T} {q : Nat} (hr : st.heap[b]? = some (.row e ty [] [] xs)) (h1 : ty.sz = 1) {p N c : Nat} (hvb : β.v b = .slice (some ⟨p, 0, none⟩) N c) (hq : q + zs.length <= N) {vs : List Value} (hvl : vs.length = zs.length) (hD : ∀ i, i < zs.length -> D F w ((ty.enc (nth zs i)).getD 0 .undef) (vs.getD i undef)) :
 ∃ cur : Array Value, w.heap[p]? = some (.cells cur e (0, 0)) /\ q + vs.length <= cur.size /\ Rel B F β { st with heap := st.heap.set b (.row e ty [] [] (zbP xs q zs)) } a (w.setRow p (cur.toList.take q ++ vs ++ cur.toList.drop (q + vs.length)).toArray) := by
 obtain ⟨Vs, hown, hlen, hob, hD0⟩ := h.heap.blk b _ hr
 rw [h1] at hown
 have hNx : N = xs.length := (zbF hown hvb).1
 obtain ⟨_, cur, hc1, hc2, Us, hown', hUs⟩ := zvo (w := w) hown hvb (o := q) (vs := vs) (by omega)
 refine ⟨cur, hc1, hc2, ?_⟩
 have hpb : β.o p = some (b, none) := hob p (by simp [hvb, Value.ownBlock])
 have hlt := (List.getElem?_eq_some_iff.1 hr).1
 have hbk : ∀ k, k ≠ p -> (w.setRow p (cur.toList.take q ++ vs ++ cur.toList.drop (q + vs.length)).toArray).heap[k]? = w.heap[k]? := fun k hk => setRow_other w _ k _ hk
 refine h.write hlt hpb rfl rfl rfl (by simp) hbk fun hE => ?_
 have hsl : (zbP xs q zs).length = xs.length := zBN (by omega)
 refine ⟨Us, by rw [hsl, h1]; exact hown', by rw [hsl]; exact hlen, hob, fun i j hi hj => ?_⟩
 rw [hsl] at hi
 have hj0 : j = 0 := by omega
 subst hj0
 rw [h1, Nat.mul_one, Nat.add_zero, hUs i hi, zBM (by omega) hi]
 by_cases hin : q <= i /\ i < q + zs.length
 . rw [if_pos hin, if_pos (by omega)]
   exact .data rfl ((hD (i - q) (by omega)).mono hE)
 . rw [if_neg hin, if_neg (by omega)]
   have := hD0 i 0 hi (by omega)
   rw [h1, Nat.mul_one, Nat.add_zero] at this
   exact this.mono hE (.refl _) fun r hr' => ⟨hr', hbk r fun e => by subst e; rw [hpb] at hr'; cases hr'⟩
theorem zu2 (h : Rel B F β st a w) {o : Oper} {t t' e e2 : TypeId} {d s : Operand} (hop : o.op = .call { callee := .builtin .copy, args := #[d, s], argTypes := #[t, t'] }) {b q : Nat} {m : Option Nat} (hd : zvZ (st.ev d) = some (b, q, m)) {ty : Ty} {xs ys : List ty.T} (hr : st.heap[b]? = some (.row e ty [] [] xs))
 (hu : P.underlying t = some (.slice e2)) (h1 : ty.sz = 1) (hc2 : P.cellsOf e2 = 1) (hy : st.src ty (st.ev s) = some ys) {next : Act -> World -> Prop} {Q : Exit -> Act -> World -> Prop}
 (hk : ∀ u w', Rel B F β (({ st with heap := st.heap.set b (.row e ty [] [] (zbP xs q (ys.take (m.getD xs.length)))) } : St).put o.dst (.v (.int .i64 (ys.take (m.getD xs.length)).length))) (a.put o.dst u) w' -> next (a.put o.dst u) w') : o.wp P a w next Q := by
 obtain ⟨A, c, news, hx, hnl, hA0, hA1, hD⟩ := zzq h.heap (h.ev s) hy
 obtain ⟨hbl, A', dc, hdv, hdp⟩ := zyG (h.ev d) hd (h.heap.blk b _ hr)
 obtain ⟨ie, hie, hies⟩ := zcH hc2 (by omega)
 have hs1 : (P.info? e2).map (·.size) = some 1 := by rw [hie]; simp [hies]
 generalize hn : m.getD xs.length = n at *
 rw [h1, Nat.mul_one] at hnl
 have hzl : (ys.take n).length = min n ys.length := List.length_take
 by_cases hz : (ys.take n).length = 0
 . have hz0 : ys.take n = [] := List.eq_nil_of_length_eq_zero hz
   have hrun := run_copy_none (P := P) w t t' o.type e2 A' A n dc ys.length c hu hs1 (by show min ys.length n = 0; omega)
   have hrel := h.put o.dst (.v (.int .i64 ((0 : Nat) : Int)))
   rw [hz0, zBO, zju hr] at hk
   refine zaA (w' := w) (y := goInt 0) ?_ (hk (goInt 0) w hrel)
   simp [execOp, hop, resolve, invoke, builtin, hdv, hx, hrun, Result.andThen]
 . have hn0 : 0 < n := by omega
   obtain ⟨p, N, c2, hvb, hqn, rfl⟩ := hdp hn0
   have hy0 : 0 < ys.length := by omega
   cases A with
   | none => exact absurd (hA0 rfl) (by omega)
   | some ad =>
    have hvl : (news.take n).length = (ys.take n).length := by simp [hnl]
    obtain ⟨cur, hc1, hcs, hR⟩ := zwr h hr h1 hvb (q := q) (zs := ys.take n) (by omega) hvl (fun i hi => by
     have hi' : i < ys.length := by omega
     have := hD i 0 hi' (by omega)
     rw [h1, Nat.mul_one, Nat.add_zero] at this
     have e1 : nth (ys.take n) i = nth ys i := by simp [nth, List.getD, List.getElem?_take, show i < n by omega]
     have e2 : (news.take n).getD i undef = news.getD i undef := by simp [List.getD, List.getElem?_take, show i < n by omega]
     rw [e1, e2]; exact this)
    have hone : ∀ v ∈ news.take n, v.oneCell' = true := fun v hv => zh3 (ty := ty) (ys := ys) (by rw [hnl, h1, Nat.mul_one]) hD v (List.mem_of_mem_take hv)
    have hrun := run_copy_row (P := P) w t t' o.type e2 p q n dc ad ys.length c cur e (news.take n) hu hs1 hc1 (by show (news.take n).length = Nat.min ys.length n; rw [hvl, hzl]; exact Nat.min_comm _ _) (fun j v hj => hA1 ad rfl j v (by
     rw [List.getElem?_take] at hj
     split at hj
     . exact hj
     . cases hj)) hcs hone
    have e : goInt ((news.take n).length : Int) = .int .i64 ((ys.take n).length : Int) := by rw [hvl]; rfl
    rw [e] at hrun
    refine zaA (w' := w.setRow p (cur.toList.take q ++ news.take n ++ cur.toList.drop (q + (news.take n).length)).toArray) (y := .int .i64 ((ys.take n).length : Int)) ?_ (hk _ _ (hR.put o.dst (.v _)))
    simp [execOp, hop, resolve, invoke, builtin, hdv, hx, hrun, Result.andThen]
theorem zs3 (h : Rel B F β st a w) {o : Oper} {t e e2 : TypeId} {x : Operand} (hop : o.op = .call { callee := .builtin .clear, args := #[x], argTypes := #[t] }) {b : Nat} (hx : st.ev x = .own b) {ty : Ty} {xs : List ty.T} (hr : st.heap[b]? = some (.row e ty [] [] xs))
 (hu : P.underlying t = some (.slice e2)) (h1 : ty.sz = 1) {z : AV} (hz : zcD P e2 = some [z]) {y : ty.T} (hy : ty.dec [z] = some y) {next : Act -> World -> Prop} {Q : Exit -> Act -> World -> Prop}
 (hk : ∀ u w', Rel B F β (({ st with heap := st.heap.set b (.row e ty [] [] (List.replicate xs.length y)) } : St).put o.dst (.v (.tuple #[]))) (a.put o.dst u) w' -> next (a.put o.dst u) w') : o.wp P a w next Q := by
 obtain ⟨i, zv, hi, hzv, hzc⟩ := zcE hz
 obtain ⟨c0, hc0⟩ : ∃ c0, zv.cells = #[c0] := by
  match hq : zv.cells, hzc with
  | ⟨[c0]⟩, _ => exact ⟨c0, rfl⟩
  | ⟨[]⟩, hzc => simp at hzc
  | ⟨_ :: _ :: _⟩, hzc => simp at hzc
 have hze : z = .v c0 := by rw [hc0] at hzc; simpa using hzc
 have hzero : ∀ w : World, (zeroValue e2).run P w = .ok zv w := fun w => by simp [zeroValue, typeInfo, hi, hzv, Sem.run_bind, run_program, Sem.run, Result.andThen]
 have hv := h.ev x; rw [hx] at hv
 obtain ⟨hbl, hvb, _⟩ := zdq hv
 obtain ⟨Vs, hown, _⟩ := h.heap.blk b _ hr
 have hspl : zbP xs 0 (List.replicate xs.length y) = List.replicate xs.length y := by simp [zbP]
 rcases hown.2 with ⟨h0, hn0⟩ | ⟨g, cap, cur, hvg, _⟩
 . have hxs : xs = [] := List.eq_nil_of_length_eq_zero hn0
   subst hxs
   have hrel := h.put o.dst (.v (.tuple #[]))
   simp only [List.length_nil, List.replicate_zero] at hk
   rw [zju hr] at hk
   refine zaA (w' := w) (y := .tuple #[]) ?_ (hk _ w hrel)
   simp [execOp, hop, resolve, invoke, builtin, Builtin.clear_, hvb, h0, run_underlying hu w, Sem.run_bind, Result.andThen]
 . by_cases hx0 : xs.length = 0
   . have hxs : xs = [] := List.eq_nil_of_length_eq_zero hx0
     subst hxs
     have hrel := h.put o.dst (.v (.tuple #[]))
     simp only [List.length_nil, List.replicate_zero] at hk
     rw [zju hr] at hk
     refine zaA (w' := w) (y := .tuple #[]) ?_ (hk _ w hrel)
     simp [execOp, hop, resolve, invoke, builtin, Builtin.clear_, hvb, hvg, run_underlying hu w, Sem.run_bind, Result.andThen]
   . have hd0 : D F w ((ty.enc y).getD 0 .undef) c0 := (za0 (F := F) (w := w) (β := Gh.nil) hy).2 0 c0 (by simp) (by rw [hze]; exact .v c0)
     have hone : c0.oneCell' = true := by
      have := zv2 (β := Gh.nil) (show 0 < ty.sz by omega) hd0
      exact this
     obtain ⟨cur', hc1, hcs, hR⟩ := zwr h hr h1 hvg (q := 0) (zs := List.replicate xs.length y) (vs := List.replicate xs.length c0) (by simp) (by simp) (fun i hi => by
      have hi' : i < xs.length := by simpa using hi
      have e1 : nth (List.replicate xs.length y) i = y := by simp [nth, List.getD, hi']
      have e2 : (List.replicate xs.length c0).getD i undef = c0 := by simp [List.getD, hi']
      rw [e1, e2]; exact hd0)
     rw [hspl] at hR
     have hrun := run_storeCells_at P g 0 e (List.replicate xs.length c0) 0 cur' w hc1 (by simpa using hcs) (fun v hv => by rw [List.eq_of_mem_replicate hv]; exact hone)
     have hzcs : (Builtin.zeroCells zv.cells xs.length).toList = List.replicate xs.length c0 := by
      rw [hc0]
      simp [Builtin.zeroCells]
      apply List.ext_getElem
      . simp
      . intro i h1 h2
        simp [Nat.mod_one]
     obtain ⟨k, hk'⟩ : ∃ k, xs.length = k + 1 := ⟨xs.length - 1, by omega⟩
     refine zaA (y := .tuple #[]) ?_ (hk _ _ (hR.put o.dst (.v _)))
     simp only [Nat.add_zero, Nat.zero_add] at hrun hR ⊢
     rw [hk'] at hrun hzcs hvg ⊢
     simp [execOp, hop, resolve, invoke, builtin, Builtin.clear_, hvb, hvg, run_underlying hu w, Sem.run_bind, hzero, hzcs, hrun, Result.andThen]
theorem zvO (h : Rel B F β st a w) {o : Oper} {t e e2 : TypeId} {x : Operand} {lo hi : Option Operand} (hop : o.op = .slice t x lo hi none) {b : Nat} (hx : st.ev x = .own b) {ty : Ty} {xs : List ty.T} (hr : st.heap[b]? = some (.row e ty [] [] xs)) (hu : P.underlying t = some (.slice e2)) {l hh : Int} (hlo : bnd st lo 0 = some l) (hhi : bnd st hi xs.length = some hh) (hs : P.cellsOf e2 = ty.sz) (hin : inS l hh xs.length = true) {next : Act -> World -> Prop} {Q : Exit -> Act -> World -> Prop}
 (hk : ∀ u, Rel B F β (st.put o.dst (.vw b ty.sz l.toNat (hh.toNat - l.toNat))) (a.put o.dst u) w -> next (a.put o.dst u) w) : o.wp P a w next Q := by
 have hv := h.ev x; rw [hx] at hv
 obtain ⟨hbl, hvb, _⟩ := zdq hv
 obtain ⟨Vs, hown, _⟩ := h.heap.blk b _ hr
 obtain ⟨h0, h1, h2⟩ := inS_iff.1 hin
 obtain ⟨i, hi', hsz⟩ := zcH hs (zaX ty)
 have run : ∀ A c, xs.length <= c -> (Instr.sliceAt t (.slice A xs.length c) (lo.map a.eval) (hi.map a.eval) none).run P w = .ok (.slice (if c = l.toNat then A else A.map (·.add (l.toNat * ty.sz))) (hh.toNat - l.toNat) (c - l.toNat)) w := by
  intro A c hc
  simp [Instr.sliceAt, Instr.slice, Sem.run_bind, run_underlying hu w, zhp (P := P) (zb4 h hlo) (zb4 h hhi) h0 h1 h2 hc w, zat hi' w, hsz]
 rcases hown.2 with ⟨hv0, hn0⟩ | ⟨g, cap, cur, hvg, _, _, hnc, _⟩
 . have hl0 : l.toNat = 0 := by omega
   have hh0 : hh.toNat = 0 := by omega
   have hr0 := run none 0 (by omega)
   rw [hn0] at hr0
   refine zaA (w' := w) (y := .slice (if (0 : Nat) = l.toNat then none else none) (hh.toNat - l.toNat) (0 - l.toNat)) ?_ (hk _ (h.put o.dst (.vw b ty.sz l.toNat (hh.toNat - l.toNat) _ _ hbl (by omega) fun hp => by omega)))
   simp [execOp, hop, hvb, hv0, hn0, hr0, Sem.run_bind, Result.andThen]
 . refine zaA (w' := w) (y := .slice (if cap = l.toNat then some ⟨g, 0, none⟩ else some ⟨g, l.toNat * ty.sz, none⟩) (hh.toNat - l.toNat) (cap - l.toNat)) ?_ (hk _ (h.put o.dst (.vw b ty.sz l.toNat (hh.toNat - l.toNat) _ _ hbl (by omega) fun hp => ⟨g, _, cap, hvg, by omega, by rw [if_neg (by omega)]⟩)))
   have hr0 := run (some ⟨g, 0, none⟩) cap hnc
   simp only [Option.map_some, add_lit, Nat.zero_add] at hr0
   simp [execOp, hop, hvb, hvg, hr0, Sem.run_bind, Result.andThen]
end
end Go.Proofs.YtganhedldgbfpaaGreatDoor
end
