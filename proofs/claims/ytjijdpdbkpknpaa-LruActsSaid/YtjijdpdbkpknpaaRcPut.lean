/-
  The walk of the document's Put. Conditions: the cache lies as its state says; the response lies below B; the cache has room for one more.
-/
import Derived.Test.YtjijdpdbkpknpaaRcDrop
import Derived.Test.YtjijdpdbkpknpaaTailV
namespace Go.Proofs.Ytjijdpdbkpknpaa
open Go Go.RowKit

theorem of_idx {k : ByteArray} {l : List Hd} {i : Int} (h : idxI k l = i) (hh : has k l = true) : i = ((atK k l : Nat) : Int) := by rw [← h, idx_yes hh]
theorem of_nidx {k : ByteArray} {l : List Hd} {i : Int} (h : idxI k l = i) (hh : has k l = false) : i = -1 := by rw [← h, idx_no hh]
theorem RefTo.step {W0 W W2 : World} {M0 M M2 : Nat → Prop} {B g : Nat} {S2 : CS} (hM : ∀ q, M q → M0 q ∨ W0.heap.size ≤ q) (hf : Fr M0 W0 W) (h2 : RefAt W2 M2 B g S2) (h3 : ∀ q, M2 q → M q ∨ W.heap.size ≤ q) (h4 : Fr M W W2) : RefTo W0 M0 B g S2 W2 := by
  have := hf.size
  exact ⟨M2, h2, fun q hq => by
    rcases h3 q hq with e | e
    · exact hM q e
    · exact .inr (by omega), hf.trans h4 (fun q hq e => by
    rcases hM q e with k | k
    · exact k
    · omega)⟩
theorem Grown.up {M : Nat → Prop} {W : World} {v : Value} (hv : ∀ q, v.ownBlock = some q → W.heap.size ≤ q) : ∀ q, Grown M v q → M q ∨ W.heap.size ≤ q := fun q hq => by
  rcases hq with e | e
  · exact .inl e
  · exact .inr (hv q e)
theorem Grown.up2 {M : Nat → Prop} {W : World} {v : Value} (hv : ∀ q, v.ownBlock = some q → M q ∨ W.heap.size ≤ q) : ∀ q, Grown M v q → M q ∨ W.heap.size ≤ q := fun q hq => by
  rcases hq with e | e
  · exact .inl e
  · exact hv q e

/-- the cache with the response put, ahead of making room -/
def addS (S : CS) (h : Hd) : CS := if has h.key S.rest then { S with trial := del h.key S.trial, rest := del h.key S.rest ++ [h] } else { S with trial := del h.key S.trial ++ [h], rest := del h.key S.rest }
theorem addS_yes {S : CS} {h : Hd} (hh : has h.key S.rest = true) : addS S h = { S with trial := del h.key S.trial, rest := del h.key S.rest ++ [h] } := if_pos hh
theorem addS_no {S : CS} {h : Hd} (hh : has h.key S.rest = false) : addS S h = { S with trial := del h.key S.trial ++ [h], rest := del h.key S.rest } := if_neg (by rw [hh]; simp)
theorem put_add {S : CS} {h : Hd} (hc : ¬ S.budget < costN h) : putS S h = ({ S with trial := (shrinkT S.budget (addS S h).rest (addS S h).trial).1, rest := (shrinkT S.budget (addS S h).rest (addS S h).trial).2.1 }, (shrinkT S.budget (addS S h).rest (addS S h).trial).2.2) := by
  unfold putS
  rw [if_neg hc]
  cases hh : has h.key S.rest with
  | true => rw [if_pos rfl, addS_yes hh]
  | false => rw [if_neg (by simp), addS_no hh]
theorem addS_ok {S : CS} {h : Hd} (hs : S.ok) (hok : h.ok) (hn : S.trial.length + S.rest.length < 1000) : CS.ok { S with trial := del h.key S.trial, rest := del h.key S.rest ++ [h] } ∧ CS.ok { S with trial := del h.key S.trial ++ [h], rest := del h.key S.rest } := by
  have l1 := len_del h.key S.trial
  have l2 := len_del h.key S.rest
  have m1 : ∀ x ∈ del h.key S.trial, x.ok := fun x hx => hs.2.2.2 x (List.mem_append_left _ (List.mem_of_mem_eraseIdx hx))
  have m2 : ∀ x ∈ del h.key S.rest, x.ok := fun x hx => hs.2.2.2 x (List.mem_append_right _ (List.mem_of_mem_eraseIdx hx))
  have m3 : ∀ x ∈ [h], x.ok := fun x hx => by rw [List.mem_singleton.1 hx]; exact hok
  refine ⟨⟨hs.1, hs.2.1, ?_, fun x hx => ?_⟩, ⟨hs.1, hs.2.1, ?_, fun x hx => ?_⟩⟩
  · show (del h.key S.trial).length + (del h.key S.rest ++ [h]).length ≤ 1000
    rw [List.length_append, List.length_singleton]; omega
  · rcases List.mem_append.1 hx with k | k
    · exact m1 x k
    · rcases List.mem_append.1 k with k | k
      · exact m2 x k
      · exact m3 x k
  · show (del h.key S.trial ++ [h]).length + (del h.key S.rest).length ≤ 1000
    rw [List.length_append, List.length_singleton]; omega
  · rcases List.mem_append.1 hx with k | k
    · rcases List.mem_append.1 k with k | k
      · exact m1 x k
      · exact m3 x k
    · exact m2 x k

theorem addS_same (S : CS) (h : Hd) : (addS S h).budget = S.budget ∧ (addS S h).share = S.share := by
  unfold addS
  split <;> exact ⟨rfl, rfl⟩
def rmeas (g : Nat) (w : World) : Nat := vlen ((w.cell? ⟨g, 2, none⟩).getD undef) + vlen ((w.cell? ⟨g, 3, none⟩).getD undef)
theorem RefIn.rmeas {W : World} {M : Nat → Prop} {B g : Nat} {S : CS} {vt vr : Value} {Xt Xr : List (Hd × Loc)} (H : RefIn W M B g S vt vr Xt Xr) : rmeas g W = S.trial.length + S.rest.length := by
  unfold Proofs.Ytjijdpdbkpknpaa.rmeas
  rw [show W.cell? ⟨g, 2, none⟩ = some vt from H.blk.cell 2, show W.cell? ⟨g, 3, none⟩ = some vr from H.blk.cell 3]
  show vlen vt + vlen vr = _
  rw [own_vlen H.rt, own_vlen H.rr, H.len.1, H.len.2]
/-- what making room keeps -/
def RPutRel (W1 : World) (M : Nat → Prop) (B g : Nat) (S3 : CS) (s7 : Value) (wr : World) : Prop :=
  ∃ M' S' acc, RefAt wr M' B g S' ∧ (∀ q, M' q → M q ∨ W1.heap.size ≤ q) ∧ Fr M W1 wr ∧ wr.ownsRow W1.heap.size 9 1 s7 acc.length (strs acc) ∧ (∀ q, s7.ownBlock = some q → ¬ M' q) ∧ S'.budget = S3.budget ∧ S'.share = S3.share ∧
    acc.length + S'.trial.length + S'.rest.length ≤ 1000 ∧ shrinkT S3.budget S3.rest S3.trial = ((shrinkT S3.budget S'.rest S'.trial).1, (shrinkT S3.budget S'.rest S'.trial).2.1, acc ++ (shrinkT S3.budget S'.rest S'.trial).2.2)
theorem row_key {W : World} {v : Value} {X : List (Hd × Loc)} (h : W.ownsRow 0 40 17 v X.length (hrow X)) (hi : 0 < X.length) :
    ∃ gr c, v = .slice (some ⟨gr, 0, none⟩) X.length c ∧ ∀ x, Below W.heap.size W x → x.cell? ⟨gr, 0, none⟩ = some (.string X[0].1.key) := by
  obtain ⟨gr, c, e, _, hlt⟩ := h.form (by omega)
  subst e
  refine ⟨gr, c, rfl, fun x hx => ?_⟩
  have := h.cells (g := gr) rfl _ _ (hrow_get X 0 hi 0 _ rfl)
  rw [add_flat, Nat.zero_add] at this
  exact (hx.cell (p := ⟨gr, 0, none⟩) hlt).trans this

set_option maxRecDepth 100000 in
set_option maxHeartbeats 4000000 in
theorem rput_any {W : World} {M : Nat → Prop} {B g : Nat} {S : CS} (H : RefAt W M B g S) (h : Hd) (l : Loc) (hh : HeldD W (fun q => q < B) h l) (hok : h.ok) (hn : S.trial.length + S.rest.length < 1000) :
    Calls Try.prog 22 #[.pointer (some ⟨g, 0, none⟩), .agg (hcs h l).toArray] W fun e W' => StrsBack W (putS S h).2 e W' ∧ RefTo W M B g (putS S h).1 W' := by
  have hlow := H.low
  obtain ⟨vt, vr, Xt, Xr, h0⟩ := H
  have hBd := h0.bound
  have HSOK := hide h0.ok
  have HQN : Hid (Blk (W.alloc (.cells (hcs h l).toArray 40)) W.heap.size 40 (hcs h l).toArray) := Blk.new _ _ _
  have HW1 : Hid (Below W.heap.size W (W.alloc (.cells (hcs h l).toArray 40)) ∧ (W.alloc (.cells (hcs h l).toArray 40)).heap.size = W.heap.size + 1) := ⟨(Below.refl _ _).alloc (Nat.le_refl _) _, by simp⟩
  obtain ⟨W1, hA1⟩ : ∃ W1, W.alloc (.cells (hcs h l).toArray 40) = W1 := ⟨_, rfl⟩
  rw [hA1] at HW1 HQN
  have HI1 := hide (h0.lift HW1.out.1)
  have HNM : Hid (∀ M' : Nat → Prop, (∀ q, M' q → M q ∨ W1.heap.size ≤ q) → ¬ M' W.heap.size) := fun M' hM' e => by
    have := HW1.out.2
    rcases hM' _ e with k | k
    · have := (hlow _ k).2; omega
    · omega
  have HMB : Hid (∀ q, M q → B ≤ q) := fun q hq => (hlow q hq).1
  have HML : Hid (∀ q, M q → q < W.heap.size) := fun q hq => (hlow q hq).2
  have HHX : Hid (∀ X, Fr M W1 X → HeldD X (fun q => q < B) h l) := fun X hX => (hh.keep (Same.of_below HW1.out.1 fun q hq => by omega)).fr hX (fun q hq e => by have := HMB.out q e; omega)
  have HQX : Hid (∀ X, Fr M W1 X → Blk X W.heap.size 40 (hcs h l).toArray) := fun X hX => hX.blk HQN.out (fun e => by have := (hlow _ e).2; omega)
  have HOK := hide hok
  have HHN := hide hn
  have hw1 := HW1.out.2
  clear hh h0 hok hn hlow
  obtain ⟨q3, hq3⟩ : ∃ q3, q3 = W.heap.size := ⟨_, rfl⟩
  have HQ3 := hide hq3
  rw [← hq3] at HQN HNM HQX
  have HK2 : Hid (∀ x, Below W1.heap.size W1 x → x.cell? ⟨g, 2, none⟩ = some vt ∧ x.cell? ⟨q3, 0, none⟩ = some (.string h.key) ∧ Calls Try.prog 45 #[vt, .string h.key] x fun e w' => e = .returned (.int .i64 (idxI h.key S.trial)) ∧ Below x.heap.size x w') := fun x hx => ⟨(HI1.out.lift hx).blk.cell 2, (HQX.out x (Fr.of_below hx M)).cell 0, (HI1.out.lift hx).at2 h.key⟩
  have HK3 : Hid (∀ x, Below W1.heap.size W1 x → x.cell? ⟨g, 3, none⟩ = some vr ∧ x.cell? ⟨q3, 0, none⟩ = some (.string h.key) ∧ Calls Try.prog 45 #[vr, .string h.key] x fun e w' => e = .returned (.int .i64 (idxI h.key S.rest)) ∧ Below x.heap.size x w') := fun x hx => ⟨(HI1.out.lift hx).blk.cell 3, (HQX.out x (Fr.of_below hx M)).cell 0, (HI1.out.lift hx).at3 h.key⟩
  obtain ⟨it, hit⟩ : ∃ it, idxI h.key S.trial = it := ⟨_, rfl⟩
  obtain ⟨ir, hir⟩ : ∃ ir, idxI h.key S.rest = ir := ⟨_, rfl⟩
  rw [hit] at HK2
  rw [hir] at HK3
  have HIT := hide hit
  have HIR := hide hir
  clear hit hir
  obtain ⟨i0, z0, hi0, hz0, hzc, hz1, hz2⟩ := held_zero4
  have hz17 : z0.cells.size = 17 := by rw [hzc]; rfl
  go_enter Try.func22, Try.ntmps22
  go_wp2_with fail
  clear hA1
  try rw [← hq3]
  clear hq3
  refine wp_region_assert (listV [isV (.pointer (some ⟨g, 0, none⟩)), isV (.pointer (some ⟨g, 0, none⟩)), isV (.pointer (some ⟨g, 2, none⟩)), isV (vt), isV (.pointer (some ⟨q3, 0, none⟩)), isV (.string h.key), isV (.int .i64 it), isV (.int .i64 it)]) (by kernel_rfl) (by kernel_rfl) (listV_stable ?_) ?_ ?_
  · exact ⟨isV_stable _, isV_stable _, isV_stable _, isV_stable _, isV_stable _, isV_stable _, isV_stable _, isV_stable _, trivial⟩
  refine ⟨fun vs wk hbk hd => ?_, fun vs wk hbk hd => ?_, fun vs wk hbk hd => ?_, fun vs wk hbk hd => ?_, fun vs wk hbk hd => ?_, fun vs wk hbk hd => ?_, fun vs wk hbk hd => ?_, fun vs wk hbk hd => ?_, trivial⟩
  -- 0: Op.move t0
  · clear hd
    go_wp2
    exact ⟨rfl, rfl, rfl, Below.refl _ _⟩
  -- 1: Op.nilCheck t8
  · simp only [Act.put, List.setIfInBounds_toArray, List.set_cons_zero, List.set_cons_succ]
    have e0 : vs 0 = .pointer (some ⟨g, 0, none⟩) := hd 0 (by kernel_rfl)
    clear hd
    go_wp2
    first | exact ⟨rfl, rfl, rfl, Below.refl _ _⟩ | exact ⟨rfl, rfl, e0, Below.refl _ _⟩
  -- 2: Op.fieldAddr 64 t9 2
  · simp only [Act.put, List.setIfInBounds_toArray, List.set_cons_zero, List.set_cons_succ, Nat.reduceAdd]
    have e1 : vs 1 = .pointer (some ⟨g, 0, none⟩) := hd 1 (by kernel_rfl)
    clear hd
    go_wp2
    first | exact ⟨rfl, rfl, rfl, Below.refl _ _⟩ | exact ⟨rfl, rfl, e1, Below.refl _ _⟩
  -- 3: Op.load 46 t10
  · simp only [Act.put, List.setIfInBounds_toArray, List.set_cons_zero, List.set_cons_succ, Nat.reduceAdd]
    have e2 : vs 2 = .pointer (some ⟨g, 2, none⟩) := hd 2 (by kernel_rfl)
    clear hd
    have hq := (HK2.out wk (undrew hbk)).1
    go_wp2
    first | exact ⟨rfl, rfl, rfl, Below.refl _ _⟩ | exact ⟨rfl, rfl, e2, Below.refl _ _⟩
  -- 4: Op.fieldAddr 40 t3 0
  · simp only [Act.put, List.setIfInBounds_toArray, List.set_cons_zero, List.set_cons_succ, Nat.reduceAdd]
    clear hd
    go_wp2
    exact ⟨rfl, rfl, rfl, Below.refl _ _⟩
  -- 5: Op.load 9 t12
  · simp only [Act.put, List.setIfInBounds_toArray, List.set_cons_zero, List.set_cons_succ, Nat.reduceAdd]
    have e4 : vs 4 = .pointer (some ⟨q3, 0, none⟩) := hd 4 (by kernel_rfl)
    clear hd
    have hq := (HK2.out wk (undrew hbk)).2.1
    go_wp2
    first | exact ⟨rfl, rfl, rfl, Below.refl _ _⟩ | exact ⟨rfl, rfl, e4, Below.refl _ _⟩
  -- 6: Op.call { value (Operand.func 45), args := #[t11, t13], argTypes := #[
  · simp only [Act.put, List.setIfInBounds_toArray, List.set_cons_zero, List.set_cons_succ, Nat.reduceAdd]
    have e3 : vs 3 = vt := hd 3 (by kernel_rfl)
    have e5 : vs 5 = .string h.key := hd 5 (by kernel_rfl)
    clear hd
    have hco := (HK2.out wk (undrew hbk)).2.2
    go_wp2_with fail
    refine hco.mono ?_
    rintro e w' ⟨rfl, hb'⟩
    clear hco
    go_wp2
    exact ⟨rfl, rfl, rfl, hb'⟩
  -- 7: Op.assign t14
  · simp only [Act.put, List.setIfInBounds_toArray, List.set_cons_zero, List.set_cons_succ, Nat.reduceAdd]
    have e6 : vs 6 = .int .i64 it := hd 6 (by kernel_rfl)
    clear hd
    go_wp2
    first | exact ⟨rfl, rfl, rfl, Below.refl _ _⟩ | exact ⟨rfl, rfl, e6, Below.refl _ _⟩
  intro vs wk hbk hd
  simp only [putAll, Act.put, List.setIfInBounds_toArray, List.set_cons_zero, List.set_cons_succ, Nat.reduceAdd]
  have e7 : vs 7 = .int .i64 it := hd 7 (by decide)
  clear hd
  simp only [e7]
  clear e7
  have HB1 := hide (undrew hbk)
  have HK4 : Hid (∀ x, Below wk.heap.size wk x → x.cell? ⟨g, 3, none⟩ = some vr ∧ x.cell? ⟨q3, 0, none⟩ = some (.string h.key) ∧ Calls Try.prog 45 #[vr, .string h.key] x fun e w' => e = .returned (.int .i64 ir) ∧ Below x.heap.size x w') := fun x hx => HK3.out x (HB1.out.trans (hx.mono HB1.out.size))
  clear HK2 HK3 hbk
  go_wp2_with fail
  obtain ⟨wj, hwj⟩ : ∃ wj, wj = wk := ⟨_, rfl⟩
  rw [← hwj] at HB1 HK4 ⊢
  clear hwj
  refine wp_region_assert (listV [isV (.pointer (some ⟨g, 0, none⟩)), isV (.pointer (some ⟨g, 0, none⟩)), isV (.pointer (some ⟨g, 3, none⟩)), isV (vr), isV (.pointer (some ⟨q3, 0, none⟩)), isV (.string h.key), isV (.int .i64 ir), isV (.int .i64 ir)]) (by kernel_rfl) (by kernel_rfl) (listV_stable ?_) ?_ ?_
  · exact ⟨isV_stable _, isV_stable _, isV_stable _, isV_stable _, isV_stable _, isV_stable _, isV_stable _, isV_stable _, trivial⟩
  refine ⟨fun vs wk hbk hd => ?_, fun vs wk hbk hd => ?_, fun vs wk hbk hd => ?_, fun vs wk hbk hd => ?_, fun vs wk hbk hd => ?_, fun vs wk hbk hd => ?_, fun vs wk hbk hd => ?_, fun vs wk hbk hd => ?_, trivial⟩
  -- 0: Op.move t0
  · clear hd
    go_wp2
    exact ⟨rfl, rfl, rfl, Below.refl _ _⟩
  -- 1: Op.nilCheck t15
  · simp only [Act.put, List.setIfInBounds_toArray, List.set_cons_zero, List.set_cons_succ]
    have e0 : vs 0 = .pointer (some ⟨g, 0, none⟩) := hd 0 (by kernel_rfl)
    clear hd
    go_wp2
    first | exact ⟨rfl, rfl, rfl, Below.refl _ _⟩ | exact ⟨rfl, rfl, e0, Below.refl _ _⟩
  -- 2: Op.fieldAddr 64 t16 3
  · simp only [Act.put, List.setIfInBounds_toArray, List.set_cons_zero, List.set_cons_succ, Nat.reduceAdd]
    have e1 : vs 1 = .pointer (some ⟨g, 0, none⟩) := hd 1 (by kernel_rfl)
    clear hd
    go_wp2
    first | exact ⟨rfl, rfl, rfl, Below.refl _ _⟩ | exact ⟨rfl, rfl, e1, Below.refl _ _⟩
  -- 3: Op.load 46 t17
  · simp only [Act.put, List.setIfInBounds_toArray, List.set_cons_zero, List.set_cons_succ, Nat.reduceAdd]
    have e2 : vs 2 = .pointer (some ⟨g, 3, none⟩) := hd 2 (by kernel_rfl)
    clear hd
    have hq := (HK4.out wk (undrew hbk)).1
    go_wp2
    first | exact ⟨rfl, rfl, rfl, Below.refl _ _⟩ | exact ⟨rfl, rfl, e2, Below.refl _ _⟩
  -- 4: Op.fieldAddr 40 t3 0
  · simp only [Act.put, List.setIfInBounds_toArray, List.set_cons_zero, List.set_cons_succ, Nat.reduceAdd]
    clear hd
    go_wp2
    exact ⟨rfl, rfl, rfl, Below.refl _ _⟩
  -- 5: Op.load 9 t19
  · simp only [Act.put, List.setIfInBounds_toArray, List.set_cons_zero, List.set_cons_succ, Nat.reduceAdd]
    have e4 : vs 4 = .pointer (some ⟨q3, 0, none⟩) := hd 4 (by kernel_rfl)
    clear hd
    have hq := (HK4.out wk (undrew hbk)).2.1
    go_wp2
    first | exact ⟨rfl, rfl, rfl, Below.refl _ _⟩ | exact ⟨rfl, rfl, e4, Below.refl _ _⟩
  -- 6: Op.call { value (Operand.func 45), args := #[t18, t20], argTypes := #[
  · simp only [Act.put, List.setIfInBounds_toArray, List.set_cons_zero, List.set_cons_succ, Nat.reduceAdd]
    have e3 : vs 3 = vr := hd 3 (by kernel_rfl)
    have e5 : vs 5 = .string h.key := hd 5 (by kernel_rfl)
    clear hd
    have hco := (HK4.out wk (undrew hbk)).2.2
    go_wp2_with fail
    refine hco.mono ?_
    rintro e w' ⟨rfl, hb'⟩
    clear hco
    go_wp2
    exact ⟨rfl, rfl, rfl, hb'⟩
  -- 7: Op.assign t21
  · simp only [Act.put, List.setIfInBounds_toArray, List.set_cons_zero, List.set_cons_succ, Nat.reduceAdd]
    have e6 : vs 6 = .int .i64 ir := hd 6 (by kernel_rfl)
    clear hd
    go_wp2
    first | exact ⟨rfl, rfl, rfl, Below.refl _ _⟩ | exact ⟨rfl, rfl, e6, Below.refl _ _⟩
  intro vs wk hbk hd
  simp only [putAll, Act.put, List.setIfInBounds_toArray, List.set_cons_zero, List.set_cons_succ, Nat.reduceAdd]
  have e7 : vs 7 = .int .i64 ir := hd 7 (by decide)
  clear hd
  simp only [e7]
  clear e7
  have HB2 := hide (HB1.out.trans ((undrew hbk).mono HB1.out.size))
  clear hbk HK4 HB1
  have HI2 := hide (HI1.out.lift HB2.out)
  clear HI1
  go_upto_if 23 with fail
  go_cut [4] from 22 to 32 (fun s4 wx => s4 = .slice none 0 0 ∧ RefTo W1 M B g { S with trial := del h.key S.trial } wx)
  case first =>
    cases hT : has h.key S.trial with
    | true =>
      have hi : atK h.key S.trial < S.trial.length := of_decide_eq_true hT
      have HCU := hide (HI2.out.cut2 _ hi)
      have hia := of_idx HIT.out hT
      have hit0 : 0 ≤ it := by omega
      rw [← hia] at HCU
      have HDE : Hid (({ S with trial := del h.key S.trial } : CS) = { S with trial := S.trial.eraseIdx (atK h.key S.trial) }) := rfl
      have q2 : wk.cell? ⟨g, 2, none⟩ = some vt := HI2.out.blk.cell 2
      clear hT hi hia
      generalize atK h.key S.trial = a at *
      go_wp2_with fail
      refine (unhide HCU).mono ?_
      rintro e w5 ⟨A', m', c', rfl, hb5, hri, hf5, hv5⟩
      have HRT : Hid (RefTo W1 M B g { S with trial := S.trial.eraseIdx a } (w5.setCell ⟨g, 2, none⟩ (.slice A' m' c'))) := RefTo.step (fun q e => .inl e) (Fr.of_below HB2.out M) ⟨_, _, _, _, hri⟩ (Grown.up hv5) hf5
      have qc : w5.cell? ⟨g, 2, none⟩ = some vt := (HI2.out.lift hb5).blk.cell 2
      have fc := (HI2.out.lift hb5).blk.frozen 2
      clear hri hf5 hv5 hb5 q2 HCU
      go_wp2
      go_meet
      exact ⟨rfl, by rw [HDE.out]; exact HRT.out⟩
    | false =>
      have hia := of_nidx HIT.out hT
      have hit0 : it < 0 := by omega
      have HRT : Hid (RefTo W1 M B g { S with trial := del h.key S.trial } wk) := by
        have e : ({ S with trial := del h.key S.trial } : CS) = S := by rw [del_no hT]
        show RefTo _ _ _ _ _ _
        rw [e]
        exact ⟨M, ⟨vt, vr, Xt, Xr, HI2.out⟩, fun q hq => .inl hq, Fr.of_below HB2.out M⟩
      clear hT hia
      go_wp2
      go_meet
      exact ⟨rfl, HRT.out⟩
  case rest =>
    obtain ⟨rfl, M2, ⟨vt2, vr2, Xt2, Xr2, h2⟩, hM2, hf2⟩ := hcut
    have HI3 := hide h2
    have HM2 := hide hM2
    have HF2 := hide hf2
    clear h2 hM2 hf2 HI2 HB2
    go_upto_if 34 with fail
    go_cut [4] from 33 to 43 (fun s4 wx => s4 = .slice none 0 0 ∧ RefTo W1 M B g { S with trial := del h.key S.trial, rest := del h.key S.rest } wx)
    case first =>
      cases hT : has h.key S.rest with
      | true =>
        have hi : atK h.key S.rest < S.rest.length := of_decide_eq_true hT
        have HCU := hide (HI3.out.cut3 (atK h.key S.rest) hi)
        have hia := of_idx HIR.out hT
        have hit0 : 0 ≤ ir := by omega
        rw [← hia] at HCU
        have HDE : Hid (({ S with trial := del h.key S.trial, rest := del h.key S.rest } : CS) = { S with trial := del h.key S.trial, rest := S.rest.eraseIdx (atK h.key S.rest) }) := rfl
        have q2 : wc.cell? ⟨g, 3, none⟩ = some vr2 := HI3.out.blk.cell 3
        clear hT hi hia
        generalize atK h.key S.rest = a at *
        go_wp2_with fail
        refine (unhide HCU).mono ?_
        rintro e w5 ⟨A', m', c', rfl, hb5, hri, hf5, hv5⟩
        have HRT : Hid (RefTo W1 M B g { S with trial := del h.key S.trial, rest := S.rest.eraseIdx a } (w5.setCell ⟨g, 3, none⟩ (.slice A' m' c'))) := RefTo.step HM2.out HF2.out ⟨_, _, _, _, hri⟩ (Grown.up hv5) hf5
        have qc : w5.cell? ⟨g, 3, none⟩ = some vr2 := (HI3.out.lift hb5).blk.cell 3
        have fc := (HI3.out.lift hb5).blk.frozen 3
        clear hri hf5 hv5 hb5 q2 HCU
        go_wp2
        go_meet
        exact ⟨rfl, by rw [HDE.out]; exact HRT.out⟩
      | false =>
        have hia := of_nidx HIR.out hT
        have hit0 : ir < 0 := by omega
        have HRT : Hid (RefTo W1 M B g { S with trial := del h.key S.trial, rest := del h.key S.rest } wc) := by
          have e : ({ S with trial := del h.key S.trial, rest := del h.key S.rest } : CS) = { S with trial := del h.key S.trial } := by rw [del_no hT]
          show RefTo _ _ _ _ _ _
          rw [e]
          exact ⟨M2, ⟨vt2, vr2, Xt2, Xr2, HI3.out⟩, HM2.out, HF2.out⟩
        clear hT hia
        go_wp2
        go_meet
        exact ⟨rfl, HRT.out⟩
    case rest =>
      obtain ⟨rfl, M3, ⟨vt3, vr3, Xt3, Xr3, h3⟩, hM3, hf3⟩ := hcut
      have HI4 := hide h3
      have HM3 := hide hM3
      have HF3 := hide hf3
      clear h3 hM3 hf3 HI3 HM2 HF2
      have HK7 : Hid (∀ x, Below wc.heap.size wc x → (Instr.loadAt 40 (.pointer (some ⟨q3, 0, none⟩))).run Try.prog x = .ok (.agg (hcs h l).toArray) x ∧ x.cell? ⟨g, 0, none⟩ = some (.int .i64 (S.budget : Int)) ∧ Calls Try.prog 20 #[.agg (hcs h l).toArray] x fun e w' => e = .returned (.int .i64 (costN h : Nat)) ∧ Below x.heap.size x w') := fun x hx => by
        have hf := HF3.out.trans (Fr.of_below hx M) (fun _ _ e => e)
        have hfs := hf.size
        have h5 := HOK.out.2.2.2.2
        exact ⟨load_held_blk x q3 _ h l (HQX.out x hf), (HI4.out.lift hx).blk.cell 0, rcost_any h l B x ((HHX.out x hf).fields.reads (fun q hq => hq)) (by omega) HOK.out.2.1 (by omega)⟩
      obtain ⟨tb, htb⟩ : ∃ tb, decide (S.budget < costN h) = tb := ⟨_, rfl⟩
      have HTB := hide htb
      clear htb
      go_wp2_with fail
      refine wp_region_assert (listV [isV (.agg (hcs h l).toArray), isV (.int .i64 (costN h : Nat)), isV (.pointer (some ⟨g, 0, none⟩)), isV (.pointer (some ⟨g, 0, none⟩)), isV (.pointer (some ⟨g, 0, none⟩)), isV (.int .i64 (S.budget : Int)), isV (.bool tb)]) (by kernel_rfl) (by kernel_rfl) (listV_stable ?_) ?_ ?_
      · exact ⟨isV_stable _, isV_stable _, isV_stable _, isV_stable _, isV_stable _, isV_stable _, isV_stable _, trivial⟩
      refine ⟨fun vs wk hbk hd => ?_, fun vs wk hbk hd => ?_, fun vs wk hbk hd => ?_, fun vs wk hbk hd => ?_, fun vs wk hbk hd => ?_, fun vs wk hbk hd => ?_, fun vs wk hbk hd => ?_, trivial⟩
      -- 0: Op.load 40 t3
      · clear hd
        have hld := (HK7.out wk (undrew hbk)).1
        refine wpList_load_run rfl 40 (.tmp 3) rfl hld rfl ?_
        go_wp2
        exact ⟨rfl, rfl, rfl, Below.refl _ _⟩
      -- 1: Op.call { value (Operand.func 20), args := #[t44], argTypes := #[40] }
      · simp only [Act.put, List.setIfInBounds_toArray, List.set_cons_zero, List.set_cons_succ]
        have e0 : vs 0 = .agg (hcs h l).toArray := hd 0 (by kernel_rfl)
        clear hd
        have hco := (HK7.out wk (undrew hbk)).2.2
        go_wp2_with fail
        refine hco.mono ?_
        rintro e w' ⟨rfl, hb'⟩
        clear hco
        go_wp2
        exact ⟨rfl, rfl, rfl, hb'⟩
      -- 2: Op.move t0
      · simp only [Act.put, List.setIfInBounds_toArray, List.set_cons_zero, List.set_cons_succ, Nat.reduceAdd]
        clear hd
        go_wp2
        exact ⟨rfl, rfl, rfl, Below.refl _ _⟩
      -- 3: Op.nilCheck t46
      · simp only [Act.put, List.setIfInBounds_toArray, List.set_cons_zero, List.set_cons_succ, Nat.reduceAdd]
        have e2 : vs 2 = .pointer (some ⟨g, 0, none⟩) := hd 2 (by kernel_rfl)
        clear hd
        go_wp2
        first | exact ⟨rfl, rfl, rfl, Below.refl _ _⟩ | exact ⟨rfl, rfl, e2, Below.refl _ _⟩
      -- 4: Op.fieldAddr 64 t47 0
      · simp only [Act.put, List.setIfInBounds_toArray, List.set_cons_zero, List.set_cons_succ, Nat.reduceAdd]
        have e3 : vs 3 = .pointer (some ⟨g, 0, none⟩) := hd 3 (by kernel_rfl)
        clear hd
        go_wp2
        first | exact ⟨rfl, rfl, rfl, Below.refl _ _⟩ | exact ⟨rfl, rfl, e3, Below.refl _ _⟩
      -- 5: Op.load 3 t48
      · simp only [Act.put, List.setIfInBounds_toArray, List.set_cons_zero, List.set_cons_succ, Nat.reduceAdd]
        have e4 : vs 4 = .pointer (some ⟨g, 0, none⟩) := hd 4 (by kernel_rfl)
        clear hd
        have hq := (HK7.out wk (undrew hbk)).2.1
        go_wp2
        first | exact ⟨rfl, rfl, rfl, Below.refl _ _⟩ | exact ⟨rfl, rfl, e4, Below.refl _ _⟩
      -- 6: Op.binOp BinOp.gtr 3 t45 t49 3
      · simp only [Act.put, List.setIfInBounds_toArray, List.set_cons_zero, List.set_cons_succ, Nat.reduceAdd]
        have e1 : vs 1 = .int .i64 (costN h : Nat) := hd 1 (by kernel_rfl)
        have e5 : vs 5 = .int .i64 (S.budget : Int) := hd 5 (by kernel_rfl)
        have htb := HTB.out
        clear hd
        go_wp2
        first | exact ⟨rfl, rfl, rfl, Below.refl _ _⟩ | exact ⟨rfl, rfl, e5, Below.refl _ _⟩ | exact ⟨rfl, rfl, e1, Below.refl _ _⟩
      intro vs wk hbk hd
      simp only [putAll, Act.put, List.setIfInBounds_toArray, List.set_cons_zero, List.set_cons_succ, Nat.reduceAdd]
      have e6 : vs 6 = .bool tb := hd 6 (by decide)
      clear hd
      simp only [e6]
      clear e6
      have HB5 := hide (undrew hbk)
      have HI5 := hide (HI4.out.lift HB5.out)
      have HF5 := hide (HF3.out.trans (Fr.of_below HB5.out M) (fun _ _ e => e))
      clear hbk HK7 HI4 HF3 HB5
      cases tb with
      | true =>
        have hc : S.budget < costN h := of_decide_eq_true HTB.out
        have e : putS S h = ({ S with trial := del h.key S.trial, rest := del h.key S.rest }, []) := if_pos hc
        have HE := hide e
        clear e hc
        go_wp2
        go_ret
        rw [HE.out]
        refine ⟨⟨none, 0, rfl, rfl, fun h => absurd h (by simp)⟩, RefTo.below HW1.out.1 HML.out ⟨M3, ⟨vt3, vr3, Xt3, Xr3, HI5.out⟩, HM3.out, HF5.out⟩⟩
      | false =>
        have hc : ¬ S.budget < costN h := of_decide_eq_false HTB.out
        have HE := hide (put_add hc)
        have HQB : Hid (∀ x, Below wk.heap.size wk x → Blk x q3 40 (hcs h l).toArray) := fun x hx => HQX.out x (HF5.out.trans (Fr.of_below hx M) (fun _ _ e => e))
        have HHB := hide (HHX.out wk HF5.out)
        have HNQ := hide (HNM.out M3 HM3.out)
        have HOKR := hide (addS_ok HSOK.out HOK.out HHN.out).1
        have HOKT := hide (addS_ok HSOK.out HOK.out HHN.out).2
        clear hc HTB
        go_upto_if 52 with fail
        go_cut [4] from 50 to 72 (fun s4 wx => s4 = .slice none 0 0 ∧ RefTo W1 M B g (addS S h) wx)
        case first =>
          cases hT : has h.key S.rest with
          | true =>
            have hia := of_idx HIR.out hT
            have hit0 : 0 ≤ ir := by omega
            have HAS := hide (addS_yes hT)
            clear hia hT
            have HSX : Hid (∀ x, Below wk.heap.size wk x → x.cell? ⟨g, 3, none⟩ = some vr3 ∧ (Instr.loadAt 40 (.pointer (some ⟨q3, 0, none⟩))).run Try.prog x = .ok (.agg (hcs h l).toArray) x) := fun x hx => ⟨(HI5.out.lift hx).blk.cell 3, load_held_blk x q3 _ h l (HQB.out x hx)⟩
            have HIN3 := HI5
            go_wp2_with fail
            refine region_U (fun x => x.cell? ⟨g, 3, none⟩ = some vr3 ∧ (Instr.loadAt 40 (.pointer (some ⟨q3, 0, none⟩))).run Try.prog x = .ok (.agg (hcs h l).toArray) x) 10 (by kernel_rfl) ?_
            intro Y hY
            have HBY : Hid (Below wk.heap.size wk Y) := by rw [hY]; exact (Below.refl _ _).drew
            have HSY := hide (HSX.out Y HBY.out)
            clear hY
            refine takeV 6 0 (.pointer (some ⟨g, 0, none⟩)) rfl (by kernel_rfl) (fun _ _ _ h => h) (by rfl) (fun x hS => by
              obtain ⟨s1, s2⟩ := hS
              go_simp) HSY.out ?_
            simp only [Act.put, List.getElem_toArray, List.getElem_cons_succ, List.getElem_cons_zero, List.setIfInBounds_toArray, List.set_cons_zero, List.set_cons_succ]
            refine takeV 6 1 (.pointer (some ⟨g, 0, none⟩)) rfl (by kernel_rfl) (fun _ _ _ h => h) (by rfl) (fun x hS => by
              obtain ⟨s1, s2⟩ := hS
              go_simp) HSY.out ?_
            simp only [Act.put, List.getElem_toArray, List.getElem_cons_succ, List.getElem_cons_zero, List.setIfInBounds_toArray, List.set_cons_zero, List.set_cons_succ]
            refine takeV 6 2 (.pointer (some ⟨g, 0, none⟩)) rfl (by kernel_rfl) (fun _ _ _ h => h) (by rfl) (fun x hS => by
              obtain ⟨s1, s2⟩ := hS
              go_simp) HSY.out ?_
            simp only [Act.put, List.getElem_toArray, List.getElem_cons_succ, List.getElem_cons_zero, List.setIfInBounds_toArray, List.set_cons_zero, List.set_cons_succ]
            refine takeV 6 3 (.pointer (some ⟨g, 3, none⟩)) rfl (by kernel_rfl) (fun _ _ _ h => h) (by rfl) (fun x hS => by
              obtain ⟨s1, s2⟩ := hS
              go_simp) HSY.out ?_
            simp only [Act.put, List.getElem_toArray, List.getElem_cons_succ, List.getElem_cons_zero, List.setIfInBounds_toArray, List.set_cons_zero, List.set_cons_succ]
            refine takeV 6 4 (vr3) rfl (by kernel_rfl) (fun _ _ _ h => h) (by rfl) (fun x hS => by
              obtain ⟨s1, s2⟩ := hS
              go_simp) HSY.out ?_
            simp only [Act.put, List.getElem_toArray, List.getElem_cons_succ, List.getElem_cons_zero, List.setIfInBounds_toArray, List.set_cons_zero, List.set_cons_succ]
            refine takeV 6 5 (.agg (hcs h l).toArray) rfl (by kernel_rfl) (fun _ _ _ h => h) (by rfl) (fun x hS => exec_load 40 (.tmp 3) rfl hS.2 rfl) HSY.out ?_
            simp only [Act.put, List.getElem_toArray, List.getElem_cons_succ, List.getElem_cons_zero, List.setIfInBounds_toArray, List.set_cons_zero, List.set_cons_succ]
            refine oneU 6 rfl (by kernel_rfl) (by rfl) (runU (exec_slice 46 (.tmp 58) rfl (slice_held h l Y) rfl) ?_)
            have HBS : Hid (Below wk.heap.size wk (Y.alloc (.cells (hcs h l).toArray 40))) := HBY.out.alloc HBY.out.size _
            have HSB : Hid (Blk (Y.alloc (.cells (hcs h l).toArray 40)) Y.heap.size 40 (hcs h l).toArray) := Blk.new _ _ _
            generalize Y.alloc (.cells (hcs h l).toArray 40) = X at *
            refine ⟨fun _ => HSX.out X HBS.out, ?_⟩
            simp only [Act.put, List.getElem_toArray, List.getElem_cons_succ, List.getElem_cons_zero, List.setIfInBounds_toArray, List.set_cons_zero, List.set_cons_succ]
            have HRD : Hid (Reads X X.heap.size 17 (some ⟨Y.heap.size, 0, none⟩) 1 (hcs h l)) := ⟨rfl, fun _ => ⟨_, rfl, HSB.out.lt, blk_held HSB.out⟩⟩
            have HOX := hide (own_keep HIN3.out.rr HBS.out)
            have HXL : Hid (Xr3.length ≤ 1000) := by have := HIN3.out.len; have := HIN3.out.ok.2.2.1; show _ ≤ _; omega
            refine oneU 7 rfl (by kernel_rfl) (by rfl) (wp_append_any _ (.tmp 57) (.tmp 59) 46 (by rfl) 0 40 i0 z0 17 248 Try.underlying46 hi0 hz0 hz1 hz2 hz17 (by omega) vr3 Xr3.length (hrow Xr3) (by rfl) HOX.out X.heap.size (some ⟨Y.heap.size, 0, none⟩) 1 1 (hcs h l) (by rfl) HRD.out hcs_one (by have := HXL.out; simp only [maxLen]; omega) (by have := HXL.out; omega) (Nat.zero_le _) ?_)
            intro v3 W3 hown3 hg3 hat3
            obtain ⟨A3, c3, e3, _⟩ := own_form hown3
            subst e3
            have HAD := hide (HIN3.out.addR h l HBS.out hg3 hown3 hat3 HHB.out HOKR.out)
            have HB3 : Hid (Blk W3 g 64 _) := ((HIN3.out.lift HBS.out).blk).grown hg3 (fun e => own_type_ne HIN3.out.rr HIN3.out.blk (by decide) g e.symm rfl)
            have HS3 : Hid (W3.cell? ⟨g, 3, none⟩ = some vr3 ∧ (Instr.loadAt 40 (.pointer (some ⟨q3, 0, none⟩))).run Try.prog W3 = .ok (.agg (hcs h l).toArray) W3) := ⟨HB3.out.cell 3, load_held_blk W3 _ _ h l ((HQB.out X HBS.out).grown hg3 (fun e => HNQ.out (HIN3.out.mr q3 e.symm)))⟩
            have qc3 := HB3.out.cell 3
            have fc3 := HB3.out.frozen 3
            clear hown3 hg3 hat3 HB3
            refine ⟨fun _ => HS3.out, ?_⟩
            simp only [Act.put, List.getElem_toArray, List.getElem_cons_succ, List.getElem_cons_zero, List.setIfInBounds_toArray, List.set_cons_zero, List.set_cons_succ]
            refine oneU 8 rfl (by kernel_rfl) (by rfl) (runU (v := .pointer (some ⟨g, 0, none⟩)) (x := W3) (by go_simp) ⟨fun _ => HS3.out, ?_⟩)
            simp only [Act.put, List.getElem_toArray, List.getElem_cons_succ, List.getElem_cons_zero, List.setIfInBounds_toArray, List.set_cons_zero, List.set_cons_succ]
            refine oneU 9 rfl (by kernel_rfl) (by rfl) (runU (v := .pointer (some ⟨g, 3, none⟩)) (x := W3) (by go_simp) ⟨fun _ => HS3.out, ?_⟩)
            simp only [Act.put, List.getElem_toArray, List.getElem_cons_succ, List.getElem_cons_zero, List.setIfInBounds_toArray, List.set_cons_zero, List.set_cons_succ]
            refine oneU 10 rfl (by kernel_rfl) (by rfl) ?_
            go_wp2_with fail
            refine doneU (by kernel_rfl) ?_ _
            clear qc3 fc3 HSB HRD HOX HXL HSX HBS HS3 HSY HBY
            have HRT : Hid (RefTo W1 M B g (addS S h) (W3.setCell ⟨g, 3, none⟩ (.slice A3 (Xr3.length + 1) c3))) := by
              rw [HAS.out]
              exact RefTo.step HM3.out HF5.out ⟨_, _, _, _, HAD.out.1⟩ (Grown.up2 HAD.out.2.2) HAD.out.2.1
            clear HAD
            go_wp2
            go_meet
            exact ⟨rfl, HRT.out⟩
          | false =>
            have hia := of_nidx HIR.out hT
            have hit0 : ir < 0 := by omega
            have HAS := hide (addS_no hT)
            clear hia hT
            have HSX : Hid (∀ x, Below wk.heap.size wk x → x.cell? ⟨g, 2, none⟩ = some vt3 ∧ (Instr.loadAt 40 (.pointer (some ⟨q3, 0, none⟩))).run Try.prog x = .ok (.agg (hcs h l).toArray) x) := fun x hx => ⟨(HI5.out.lift hx).blk.cell 2, load_held_blk x q3 _ h l (HQB.out x hx)⟩
            have HIN3 := HI5
            go_wp2_with fail
            refine region_U (fun x => x.cell? ⟨g, 2, none⟩ = some vt3 ∧ (Instr.loadAt 40 (.pointer (some ⟨q3, 0, none⟩))).run Try.prog x = .ok (.agg (hcs h l).toArray) x) 10 (by kernel_rfl) ?_
            intro Y hY
            have HBY : Hid (Below wk.heap.size wk Y) := by rw [hY]; exact (Below.refl _ _).drew
            have HSY := hide (HSX.out Y HBY.out)
            clear hY
            refine takeV 6 0 (.pointer (some ⟨g, 0, none⟩)) rfl (by kernel_rfl) (fun _ _ _ h => h) (by rfl) (fun x hS => by
              obtain ⟨s1, s2⟩ := hS
              go_simp) HSY.out ?_
            simp only [Act.put, List.getElem_toArray, List.getElem_cons_succ, List.getElem_cons_zero, List.setIfInBounds_toArray, List.set_cons_zero, List.set_cons_succ]
            refine takeV 6 1 (.pointer (some ⟨g, 0, none⟩)) rfl (by kernel_rfl) (fun _ _ _ h => h) (by rfl) (fun x hS => by
              obtain ⟨s1, s2⟩ := hS
              go_simp) HSY.out ?_
            simp only [Act.put, List.getElem_toArray, List.getElem_cons_succ, List.getElem_cons_zero, List.setIfInBounds_toArray, List.set_cons_zero, List.set_cons_succ]
            refine takeV 6 2 (.pointer (some ⟨g, 0, none⟩)) rfl (by kernel_rfl) (fun _ _ _ h => h) (by rfl) (fun x hS => by
              obtain ⟨s1, s2⟩ := hS
              go_simp) HSY.out ?_
            simp only [Act.put, List.getElem_toArray, List.getElem_cons_succ, List.getElem_cons_zero, List.setIfInBounds_toArray, List.set_cons_zero, List.set_cons_succ]
            refine takeV 6 3 (.pointer (some ⟨g, 2, none⟩)) rfl (by kernel_rfl) (fun _ _ _ h => h) (by rfl) (fun x hS => by
              obtain ⟨s1, s2⟩ := hS
              go_simp) HSY.out ?_
            simp only [Act.put, List.getElem_toArray, List.getElem_cons_succ, List.getElem_cons_zero, List.setIfInBounds_toArray, List.set_cons_zero, List.set_cons_succ]
            refine takeV 6 4 (vt3) rfl (by kernel_rfl) (fun _ _ _ h => h) (by rfl) (fun x hS => by
              obtain ⟨s1, s2⟩ := hS
              go_simp) HSY.out ?_
            simp only [Act.put, List.getElem_toArray, List.getElem_cons_succ, List.getElem_cons_zero, List.setIfInBounds_toArray, List.set_cons_zero, List.set_cons_succ]
            refine takeV 6 5 (.agg (hcs h l).toArray) rfl (by kernel_rfl) (fun _ _ _ h => h) (by rfl) (fun x hS => exec_load 40 (.tmp 3) rfl hS.2 rfl) HSY.out ?_
            simp only [Act.put, List.getElem_toArray, List.getElem_cons_succ, List.getElem_cons_zero, List.setIfInBounds_toArray, List.set_cons_zero, List.set_cons_succ]
            refine oneU 6 rfl (by kernel_rfl) (by rfl) (runU (exec_slice 46 (.tmp 68) rfl (slice_held h l Y) rfl) ?_)
            have HBS : Hid (Below wk.heap.size wk (Y.alloc (.cells (hcs h l).toArray 40))) := HBY.out.alloc HBY.out.size _
            have HSB : Hid (Blk (Y.alloc (.cells (hcs h l).toArray 40)) Y.heap.size 40 (hcs h l).toArray) := Blk.new _ _ _
            generalize Y.alloc (.cells (hcs h l).toArray 40) = X at *
            refine ⟨fun _ => HSX.out X HBS.out, ?_⟩
            simp only [Act.put, List.getElem_toArray, List.getElem_cons_succ, List.getElem_cons_zero, List.setIfInBounds_toArray, List.set_cons_zero, List.set_cons_succ]
            have HRD : Hid (Reads X X.heap.size 17 (some ⟨Y.heap.size, 0, none⟩) 1 (hcs h l)) := ⟨rfl, fun _ => ⟨_, rfl, HSB.out.lt, blk_held HSB.out⟩⟩
            have HOX := hide (own_keep HIN3.out.rt HBS.out)
            have HXL : Hid (Xt3.length ≤ 1000) := by have := HIN3.out.len; have := HIN3.out.ok.2.2.1; show _ ≤ _; omega
            refine oneU 7 rfl (by kernel_rfl) (by rfl) (wp_append_any _ (.tmp 67) (.tmp 69) 46 (by rfl) 0 40 i0 z0 17 248 Try.underlying46 hi0 hz0 hz1 hz2 hz17 (by omega) vt3 Xt3.length (hrow Xt3) (by rfl) HOX.out X.heap.size (some ⟨Y.heap.size, 0, none⟩) 1 1 (hcs h l) (by rfl) HRD.out hcs_one (by have := HXL.out; simp only [maxLen]; omega) (by have := HXL.out; omega) (Nat.zero_le _) ?_)
            intro v3 W3 hown3 hg3 hat3
            obtain ⟨A3, c3, e3, _⟩ := own_form hown3
            subst e3
            have HAD := hide (HIN3.out.addT h l HBS.out hg3 hown3 hat3 HHB.out HOKT.out)
            have HB3 : Hid (Blk W3 g 64 _) := ((HIN3.out.lift HBS.out).blk).grown hg3 (fun e => own_type_ne HIN3.out.rt HIN3.out.blk (by decide) g e.symm rfl)
            have HS3 : Hid (W3.cell? ⟨g, 2, none⟩ = some vt3 ∧ (Instr.loadAt 40 (.pointer (some ⟨q3, 0, none⟩))).run Try.prog W3 = .ok (.agg (hcs h l).toArray) W3) := ⟨HB3.out.cell 2, load_held_blk W3 _ _ h l ((HQB.out X HBS.out).grown hg3 (fun e => HNQ.out (HIN3.out.mt q3 e.symm)))⟩
            have qc3 := HB3.out.cell 2
            have fc3 := HB3.out.frozen 2
            clear hown3 hg3 hat3 HB3
            refine ⟨fun _ => HS3.out, ?_⟩
            simp only [Act.put, List.getElem_toArray, List.getElem_cons_succ, List.getElem_cons_zero, List.setIfInBounds_toArray, List.set_cons_zero, List.set_cons_succ]
            refine oneU 8 rfl (by kernel_rfl) (by rfl) (runU (v := .pointer (some ⟨g, 0, none⟩)) (x := W3) (by go_simp) ⟨fun _ => HS3.out, ?_⟩)
            simp only [Act.put, List.getElem_toArray, List.getElem_cons_succ, List.getElem_cons_zero, List.setIfInBounds_toArray, List.set_cons_zero, List.set_cons_succ]
            refine oneU 9 rfl (by kernel_rfl) (by rfl) (runU (v := .pointer (some ⟨g, 2, none⟩)) (x := W3) (by go_simp) ⟨fun _ => HS3.out, ?_⟩)
            simp only [Act.put, List.getElem_toArray, List.getElem_cons_succ, List.getElem_cons_zero, List.setIfInBounds_toArray, List.set_cons_zero, List.set_cons_succ]
            refine oneU 10 rfl (by kernel_rfl) (by rfl) ?_
            go_wp2_with fail
            refine doneU (by kernel_rfl) ?_ _
            clear qc3 fc3 HSB HRD HOX HXL HSX HBS HS3 HSY HBY
            have HRT : Hid (RefTo W1 M B g (addS S h) (W3.setCell ⟨g, 2, none⟩ (.slice A3 (Xt3.length + 1) c3))) := by
              rw [HAS.out]
              exact RefTo.step HM3.out HF5.out ⟨_, _, _, _, HAD.out.1⟩ (Grown.up2 HAD.out.2.2) HAD.out.2.1
            clear HAD
            go_wp2
            go_meet
            exact ⟨rfl, HRT.out⟩
        case rest =>
          obtain ⟨rfl, hrt⟩ := hcut
          have HSB := hide (addS_same S h)
          have HRT := hide hrt
          have HLE : Hid ((addS S h).trial.length + (addS S h).rest.length ≤ 1000) := (show RefTo _ _ _ _ _ _ from hrt).elim fun _ k => k.1.sok.2.2.1
          clear hrt HQB HHB HNQ HOKR HOKT HI5 HF5 HM3
          generalize addS S h = S3 at *
          obtain ⟨j0, hj0, hy0, hy1, hy2⟩ := info_parts info_str
          go_wp2_with fail
          go_loopw [7] (fun s7 wr => RPutRel W1 M B g S3 s7 wr) (fun _ wr => rmeas g wr)
          case atStart =>
            obtain ⟨M', a1, a2, a3⟩ := HRT.out
            exact ⟨M', S3, [], a1, a2, a3, World.ownsRow_nil _ _ _ _, fun q hq => (by cases hq), rfl, rfl, (by have := HLE.out; show 0 + _ + _ ≤ _; omega), rfl⟩
          case round =>
            obtain ⟨M4, S4, acc, ⟨vt4, vr4, Xt4, Xr4, h4⟩, hM4, hf4, hown, hnm, hbu, hsh, hlen, hst⟩ := hrel
            have HI6 := hide h4
            have HM4 := hide hM4
            have HF4 := hide hf4
            have HOW := hide hown
            have HNM2 := hide hnm
            have HBU := hide hbu
            have HSH := hide hsh
            have HLN := hide hlen
            have HST := hide hst
            clear h4 hM4 hf4 hown hnm hbu hsh hlen hst
            obtain ⟨bu, hbu⟩ : ∃ bu, S4.budget = bu := ⟨_, rfl⟩
            obtain ⟨us, hus⟩ : ∃ us, sumC S4.trial + sumC S4.rest = us := ⟨_, rfl⟩
            have HK13 : Hid (∀ x, Below wr.heap.size wr x → x.cell? ⟨g, 0, none⟩ = some (.int .i64 (bu : Int)) ∧ Calls Try.prog 28 #[.pointer (some ⟨g, 0, none⟩)] x fun e w' => e = .returned (.int .i64 (us : Int)) ∧ Below x.heap.size x w') := fun x hx => by
              have hr := rused_any ⟨vt4, vr4, Xt4, Xr4, HI6.out.lift hx⟩
              rw [hus] at hr
              exact ⟨by have := (HI6.out.lift hx).blk.cell 0; rw [← hbu]; exact this, hr⟩
            obtain ⟨tl, htl⟩ : ∃ tl, decide (bu < us) = tl := ⟨_, rfl⟩
            have HTL := hide htl
            have HBE := hide hbu
            have HUE := hide hus
            clear htl hbu hus
            go_wp2_with fail
            refine wp_region_assert (listV [isV (.pointer (some ⟨g, 0, none⟩)), isV (.int .i64 (us : Int)), isV (.pointer (some ⟨g, 0, none⟩)), isV (.pointer (some ⟨g, 0, none⟩)), isV (.pointer (some ⟨g, 0, none⟩)), isV (.int .i64 (bu : Int)), isV (.bool tl)]) (by kernel_rfl) (by kernel_rfl) (listV_stable ?_) ?_ ?_
            · exact ⟨isV_stable _, isV_stable _, isV_stable _, isV_stable _, isV_stable _, isV_stable _, isV_stable _, trivial⟩
            refine ⟨fun vs wk hbk hd => ?_, fun vs wk hbk hd => ?_, fun vs wk hbk hd => ?_, fun vs wk hbk hd => ?_, fun vs wk hbk hd => ?_, fun vs wk hbk hd => ?_, fun vs wk hbk hd => ?_, trivial⟩
            -- 0: Op.move t0
            · clear hd
              go_wp2
              exact ⟨rfl, rfl, rfl, Below.refl _ _⟩
            -- 1: Op.call { value (Operand.func 28), args := #[t73], argTypes := #[55] }
            · simp only [Act.put, List.setIfInBounds_toArray, List.set_cons_zero, List.set_cons_succ]
              have e0 : vs 0 = .pointer (some ⟨g, 0, none⟩) := hd 0 (by kernel_rfl)
              clear hd
              have hco := (HK13.out wk (undrew hbk)).2
              go_wp2_with fail
              refine hco.mono ?_
              rintro e w' ⟨rfl, hb'⟩
              clear hco
              go_wp2
              exact ⟨rfl, rfl, rfl, hb'⟩
            -- 2: Op.move t0
            · simp only [Act.put, List.setIfInBounds_toArray, List.set_cons_zero, List.set_cons_succ, Nat.reduceAdd]
              clear hd
              go_wp2
              exact ⟨rfl, rfl, rfl, Below.refl _ _⟩
            -- 3: Op.nilCheck t75
            · simp only [Act.put, List.setIfInBounds_toArray, List.set_cons_zero, List.set_cons_succ, Nat.reduceAdd]
              have e2 : vs 2 = .pointer (some ⟨g, 0, none⟩) := hd 2 (by kernel_rfl)
              clear hd
              go_wp2
              first | exact ⟨rfl, rfl, rfl, Below.refl _ _⟩ | exact ⟨rfl, rfl, e2, Below.refl _ _⟩
            -- 4: Op.fieldAddr 64 t76 0
            · simp only [Act.put, List.setIfInBounds_toArray, List.set_cons_zero, List.set_cons_succ, Nat.reduceAdd]
              have e3 : vs 3 = .pointer (some ⟨g, 0, none⟩) := hd 3 (by kernel_rfl)
              clear hd
              go_wp2
              first | exact ⟨rfl, rfl, rfl, Below.refl _ _⟩ | exact ⟨rfl, rfl, e3, Below.refl _ _⟩
            -- 5: Op.load 3 t77
            · simp only [Act.put, List.setIfInBounds_toArray, List.set_cons_zero, List.set_cons_succ, Nat.reduceAdd]
              have e4 : vs 4 = .pointer (some ⟨g, 0, none⟩) := hd 4 (by kernel_rfl)
              clear hd
              have hq := (HK13.out wk (undrew hbk)).1
              go_wp2
              first | exact ⟨rfl, rfl, rfl, Below.refl _ _⟩ | exact ⟨rfl, rfl, e4, Below.refl _ _⟩
            -- 6: Op.binOp BinOp.gtr 3 t74 t78 3
            · simp only [Act.put, List.setIfInBounds_toArray, List.set_cons_zero, List.set_cons_succ, Nat.reduceAdd]
              have e1 : vs 1 = .int .i64 (us : Int) := hd 1 (by kernel_rfl)
              have e5 : vs 5 = .int .i64 (bu : Int) := hd 5 (by kernel_rfl)
              have htb := HTL.out
              clear hd
              go_wp2
              first | exact ⟨rfl, rfl, rfl, Below.refl _ _⟩ | exact ⟨rfl, rfl, e5, Below.refl _ _⟩ | exact ⟨rfl, rfl, e1, Below.refl _ _⟩
            intro vs wk hbk hd
            simp only [putAll, Act.put, List.setIfInBounds_toArray, List.set_cons_zero, List.set_cons_succ, Nat.reduceAdd]
            have e6 : vs 6 = .bool tl := hd 6 (by decide)
            clear hd
            simp only [e6]
            clear e6
            have HB6 := hide (undrew hbk)
            have HI7 := hide (HI6.out.lift HB6.out)
            have HF6 := hide (HF4.out.trans (Fr.of_below HB6.out M) (fun _ _ e => e))
            have HOW6 := hide (own_keep HOW.out HB6.out)
            clear hbk HK13
            cases tl with
            | false =>
              have hd := shrinkT_done (b := S3.budget) (r := S4.rest) (t := S4.trial) (by
                have h1 := of_decide_eq_false HTL.out
                have h2 := HUE.out
                have h3 := HBE.out
                have h4 := HBU.out
                omega)
              obtain ⟨A', c', hv, hr⟩ := own_strs HOW6.out
              have HE2 : Hid (putS S h = (S4, acc)) := by
                show _ = _
                have hst := HST.out
                rw [hd] at hst
                rw [HE.out, ← HSB.out.1, hst]
                have e : (⟨S3.budget, S.share, S4.trial, S4.rest⟩ : CS) = S4 := by
                  rw [← HBU.out, ← HSB.out.2, ← HSH.out]
                simp only [List.append_nil]
                rw [← e]
              have HR := hide hr
              clear hd hr
              subst hv
              go_wp2
              go_ret
              rw [HE2.out]
              exact ⟨⟨A', c', rfl, HR.out.weak fun q hq => ⟨by have := hq.1; omega, hq.2⟩⟩, RefTo.below HW1.out.1 HML.out ⟨M4, ⟨vt4, vr4, Xt4, Xr4, HI7.out⟩, HM4.out, HF6.out⟩⟩
            | true =>
              cases hSt : S4.trial with
              | cons x0 r0 =>
                have hx0 : 0 < Xt4.length := by have := HI7.out.len.1; rw [hSt] at this; simp at this; omega
                obtain ⟨gr, c, rfl, hkey⟩ := row_key HI7.out.rt hx0
                have hxe : Xt4[0].1 = x0 := by
                  have h1 := hds_get Xt4 0 hx0
                  have h2 := HI7.out.xt
                  rw [hSt] at h2
                  simp only [h2] at h1
                  exact h1.symm
                rw [hxe] at hkey
                clear hxe
                have qk := hkey wk (Below.refl _ _)
                have HKEY := hide hkey
                have hi2 : (0 : Int) < (Xt4.length : Int) := by omega
                have q2 := HI7.out.blk.cell 2
                have q3' := HI7.out.blk.cell 3
                change wk.cell? ⟨g, 2, none⟩ = some (.slice (some ⟨gr, 0, none⟩) Xt4.length c) at q2
                change wk.cell? ⟨g, 3, none⟩ = some vr4 at q3'
                have HLB : Hid (acc.length ≤ 1000) := by have := HLN.out; show _ ≤ _; omega
                have HAS : Hid (strs (acc ++ [x0.key]) = strs acc ++ [.string x0.key]) := by simp [hide, Hid, strs]
                have HST2 : Hid (shrinkT S3.budget S3.rest S3.trial = ((shrinkT S3.budget S4.rest r0).1, (shrinkT S3.budget S4.rest r0).2.1, (acc ++ [x0.key]) ++ (shrinkT S3.budget S4.rest r0).2.2)) := by
                  have h1 := HST.out
                  have h2 : S3.budget < sumC S4.trial + sumC S4.rest := by
                    have e1 := of_decide_eq_true HTL.out
                    have e2 := HUE.out
                    have e3 := HBE.out
                    have e4 := HBU.out
                    omega
                  rw [hSt] at h1 h2
                  rw [shrinkT_step h2] at h1
                  show _ = _
                  rw [h1, List.append_assoc]
                  rfl
                have HLN2 : Hid ((acc ++ [x0.key]).length + (r0).length + (S4.rest).length ≤ 1000 ∧ (r0).length + (S4.rest).length < S4.trial.length + S4.rest.length) := by
                  have h1 := HLN.out
                  rw [hSt] at h1 ⊢
                  rw [List.length_append, List.length_singleton]
                  simp only [List.length_cons, List.length_nil] at h1 ⊢
                  exact ⟨by omega, by omega⟩
                have HE0 : Hid (S4.trial.eraseIdx 0 = r0) := by show _ = _; rw [hSt]; rfl
                have hl0 : 0 < S4.trial.length := by rw [hSt]; simp
                have HCUT : Hid (∀ x, Fr (fun q => u7.ownBlock = some q) wk x → RefIn x M4 B g S4 (.slice (some ⟨gr, 0, none⟩) Xt4.length c) vr4 Xt4 Xr4) := fun x hx => HI7.out.fr hx (fun q hq => ⟨by have := (HOW6.out.lt q hq).1; omega, HNM2.out q hq⟩)
                have HO2 : Hid ((wk.alloc (.cells #[.string x0.key] 9)).ownsRow W1.heap.size 9 1 u7 acc.length (strs acc)) := own_keep HOW6.out ((Below.refl _ _).alloc (Nat.le_refl _) _)
                have HR2 : Hid (Reads (wk.alloc (.cells #[.string x0.key] 9)) (wk.heap.size + 1) 1 (some ⟨wk.heap.size, 0, none⟩) 1 [.string x0.key]) := ⟨rfl, fun _ => ⟨_, rfl, by simp, fun j u hu => by
                  rw [add_flat, cell_new, ← hu]
                  simp⟩⟩
                have hw1k : W1.heap.size ≤ wk.heap.size := HF6.out.size
                generalize x0.key = key at *
                clear hkey
                go_wp2_with (at_builtin; go_loud (refine wpList_append_any _ rfl (.tmp 86) (.tmp 94) _ rfl W1.heap.size 9 j0 _ 1 16 Try.underlying28 hj0 hy0 hy1 hy2 rfl (by omega) u7 acc.length (strs acc) rfl HO2.out (wk.heap.size + 1) (some ⟨wk.heap.size, 0, none⟩) 1 1 [.string key] rfl HR2.out (by simp [Value.oneCell']) (by have := HLB.out; simp only [maxLen]; omega) (by have := HLB.out; omega) (by simp; omega) ?_; intro v1 w1 hown1 hg1 hat1; have hfw : Fr (fun q => u7.ownBlock = some q) wk w1 := (Fr.of_below ((Below.refl _ _).alloc (Nat.le_refl _) _) _).trans (Fr.of_grown hg1) (fun _ _ e => e); have HC7 := hide (HCUT.out w1 hfw); have qv := HC7.out.blk.cell 2; change w1.cell? ⟨g, 2, none⟩ = some (.slice (some ⟨gr, 0, none⟩) Xt4.length c) at qv))
                have HCU2 : Hid (Calls Try.prog 46 #[(.slice (some ⟨gr, 0, none⟩) Xt4.length c), .int .i64 0] w1 (Cut2 w1 M4 B g S4 vr4 Xt4 Xr4 0)) := HC7.out.cut2 0 hl0
                have hv1 : ∀ q, v1.ownBlock = some q → ¬ M4 q := fun q hq e => by
                  rcases hat1 with k | k
                  · exact HNM2.out q (k ▸ hq) e
                  · rw [k] at hq
                    injection hq with hq
                    have h1 := HI7.out.low q e
                    have h2 : (wk.alloc (.cells #[.string key] 9)).heap.size = wk.heap.size + 1 := by simp
                    omega
                have HV1 := hide hv1
                have HOW1 := hide hown1
                have HFW := hide hfw
                clear hown1 hg1 hat1 hfw hv1 hw1k hi2
                refine (unhide HCU2).mono ?_
                rintro e w5 ⟨A', m', c', rfl, hb5, hri, hf5, hv5⟩
                rw [HE0.out] at hri
                have HREL : Hid (RPutRel W1 M B g S3 v1 (w5.setCell ⟨g, 2, none⟩ (.slice A' m' c'))) := by
                  have hff : Fr M W1 w1 := HF6.out.trans HFW.out (fun q hq e => by have := (HOW6.out.lt q e).1; omega)
                  refine ⟨Grown M4 (.slice A' m' c'), { S4 with trial := r0 }, acc ++ [key], ⟨_, _, _, _, hri⟩, Grown.sub HM4.out hff.size (fun q hq => .inr (hv5 q hq)), hff.trans hf5 (fun q hq e => by
                    rcases HM4.out q e with k | k
                    · exact k
                    · omega), ?_, ?_, HBU.out, HSH.out, HLN2.out.1, HST2.out⟩
                  · rw [HAS.out, List.length_append, List.length_singleton]
                    exact hf5.own HOW1.out (fun q hq e => HV1.out q hq e)
                  · intro q hq e
                    rcases e with e | e
                    · exact HV1.out q hq e
                    · have h1 := hv5 q e
                      have h2 := own_lt HOW1.out q hq
                      omega
                have HME : Hid (rmeas g (w5.setCell ⟨g, 2, none⟩ (.slice A' m' c')) < rmeas g wr) := by
                  show _ < _
                  rw [hri.rmeas, HI6.out.rmeas]
                  exact HLN2.out.2
                have qc := (HC7.out.lift hb5).blk.cell 2
                change w5.cell? ⟨g, 2, none⟩ = some (.slice (some ⟨gr, 0, none⟩) Xt4.length c) at qc
                have fc := (HC7.out.lift hb5).blk.frozen 2
                clear hri hf5 hv5 hb5 qv HCU2
                go_wp2
                go_roundw
                case rel => exact HREL.out
                case measure => exact HME.out
              | nil =>
                have htl0 : Xt4.length = 0 := by have := HI7.out.len.1; rw [hSt] at this; exact this
                obtain ⟨At, ct, hvt, _⟩ := own_form HI7.out.rt
                rw [htl0] at hvt
                subst hvt
                clear htl0
                cases hRs : S4.rest with
                | nil =>
                  have e1 := of_decide_eq_true HTL.out
                  have e2 := HUE.out
                  rw [hSt, hRs] at e2
                  simp [sumC] at e2
                  omega
                | cons x0 r0 =>
                  have hx0 : 0 < Xr4.length := by have := HI7.out.len.2; rw [hRs] at this; simp at this; omega
                  obtain ⟨gr, c, rfl, hkey⟩ := row_key HI7.out.rr hx0
                  have hxe : Xr4[0].1 = x0 := by
                    have h1 := hds_get Xr4 0 hx0
                    have h2 := HI7.out.xr
                    rw [hRs] at h2
                    simp only [h2] at h1
                    exact h1.symm
                  rw [hxe] at hkey
                  clear hxe
                  have qk := hkey wk (Below.refl _ _)
                  have HKEY := hide hkey
                  have hi2 : (0 : Int) < (Xr4.length : Int) := by omega
                  have q2 := HI7.out.blk.cell 2
                  have q3' := HI7.out.blk.cell 3
                  change wk.cell? ⟨g, 2, none⟩ = some (.slice At 0 ct) at q2
                  change wk.cell? ⟨g, 3, none⟩ = some (.slice (some ⟨gr, 0, none⟩) Xr4.length c) at q3'
                  have HLB : Hid (acc.length ≤ 1000) := by have := HLN.out; show _ ≤ _; omega
                  have HAS : Hid (strs (acc ++ [x0.key]) = strs acc ++ [.string x0.key]) := by simp [hide, Hid, strs]
                  have HST2 : Hid (shrinkT S3.budget S3.rest S3.trial = ((shrinkT S3.budget r0 []).1, (shrinkT S3.budget r0 []).2.1, (acc ++ [x0.key]) ++ (shrinkT S3.budget r0 []).2.2)) := by
                    have h1 := HST.out
                    have h2 : S3.budget < sumC S4.trial + sumC S4.rest := by
                      have e1 := of_decide_eq_true HTL.out
                      have e2 := HUE.out
                      have e3 := HBE.out
                      have e4 := HBU.out
                      omega
                    rw [hSt, hRs] at h1 h2
                    rw [shrinkT_rest h2] at h1
                    show _ = _
                    rw [h1, List.append_assoc]
                    rfl
                  have HLN2 : Hid ((acc ++ [x0.key]).length + ([] : List Hd).length + r0.length ≤ 1000 ∧ ([] : List Hd).length + r0.length < S4.trial.length + S4.rest.length) := by
                    have h1 := HLN.out
                    rw [hSt, hRs] at h1 ⊢
                    rw [List.length_append, List.length_singleton]
                    simp only [List.length_cons, List.length_nil] at h1 ⊢
                    exact ⟨by omega, by omega⟩
                  have HE0 : Hid (S4.rest.eraseIdx 0 = r0) := by show _ = _; rw [hRs]; rfl
                  have hl0 : 0 < S4.rest.length := by rw [hRs]; simp
                  have HTN := hide hSt
                  have HCUT : Hid (∀ x, Fr (fun q => u7.ownBlock = some q) wk x → RefIn x M4 B g S4 (.slice At 0 ct) (.slice (some ⟨gr, 0, none⟩) Xr4.length c) Xt4 Xr4) := fun x hx => HI7.out.fr hx (fun q hq => ⟨by have := (HOW6.out.lt q hq).1; omega, HNM2.out q hq⟩)
                  have HO2 : Hid ((wk.alloc (.cells #[.string x0.key] 9)).ownsRow W1.heap.size 9 1 u7 acc.length (strs acc)) := own_keep HOW6.out ((Below.refl _ _).alloc (Nat.le_refl _) _)
                  have HR2 : Hid (Reads (wk.alloc (.cells #[.string x0.key] 9)) (wk.heap.size + 1) 1 (some ⟨wk.heap.size, 0, none⟩) 1 [.string x0.key]) := ⟨rfl, fun _ => ⟨_, rfl, by simp, fun j u hu => by
                    rw [add_flat, cell_new, ← hu]
                    simp⟩⟩
                  have hw1k : W1.heap.size ≤ wk.heap.size := HF6.out.size
                  generalize x0.key = key at *
                  clear hkey
                  go_wp2_with (at_builtin; go_loud (refine wpList_append_any _ rfl (.tmp 104) (.tmp 112) _ rfl W1.heap.size 9 j0 _ 1 16 Try.underlying28 hj0 hy0 hy1 hy2 rfl (by omega) u7 acc.length (strs acc) rfl HO2.out (wk.heap.size + 1) (some ⟨wk.heap.size, 0, none⟩) 1 1 [.string key] rfl HR2.out (by simp [Value.oneCell']) (by have := HLB.out; simp only [maxLen]; omega) (by have := HLB.out; omega) (by simp; omega) ?_; intro v1 w1 hown1 hg1 hat1; have hfw : Fr (fun q => u7.ownBlock = some q) wk w1 := (Fr.of_below ((Below.refl _ _).alloc (Nat.le_refl _) _) _).trans (Fr.of_grown hg1) (fun _ _ e => e); have HC7 := hide (HCUT.out w1 hfw); have qv := HC7.out.blk.cell 3; change w1.cell? ⟨g, 3, none⟩ = some (.slice (some ⟨gr, 0, none⟩) Xr4.length c) at qv))
                  have HCU2 : Hid (Calls Try.prog 46 #[(.slice (some ⟨gr, 0, none⟩) Xr4.length c), .int .i64 0] w1 (Cut3 w1 M4 B g S4 (.slice At 0 ct) Xt4 Xr4 0)) := HC7.out.cut3 0 hl0
                  have hv1 : ∀ q, v1.ownBlock = some q → ¬ M4 q := fun q hq e => by
                    rcases hat1 with k | k
                    · exact HNM2.out q (k ▸ hq) e
                    · rw [k] at hq
                      injection hq with hq
                      have h1 := HI7.out.low q e
                      have h2 : (wk.alloc (.cells #[.string key] 9)).heap.size = wk.heap.size + 1 := by simp
                      omega
                  have HV1 := hide hv1
                  have HOW1 := hide hown1
                  have HFW := hide hfw
                  clear hown1 hg1 hat1 hfw hv1 hw1k hi2
                  refine (unhide HCU2).mono ?_
                  rintro e w5 ⟨A', m', c', rfl, hb5, hri, hf5, hv5⟩
                  rw [HE0.out] at hri
                  have HREL : Hid (RPutRel W1 M B g S3 v1 (w5.setCell ⟨g, 3, none⟩ (.slice A' m' c'))) := by
                    have hff : Fr M W1 w1 := HF6.out.trans HFW.out (fun q hq e => by have := (HOW6.out.lt q e).1; omega)
                    refine ⟨Grown M4 (.slice A' m' c'), { S4 with rest := r0 }, acc ++ [key], ⟨_, _, _, _, hri⟩, Grown.sub HM4.out hff.size (fun q hq => .inr (hv5 q hq)), hff.trans hf5 (fun q hq e => by
                      rcases HM4.out q e with k | k
                      · exact k
                      · omega), ?_, ?_, HBU.out, HSH.out, (by show _ + S4.trial.length + _ ≤ _; rw [HTN.out]; exact HLN2.out.1), (by show _ = ((shrinkT S3.budget r0 S4.trial).1, _, _ ++ (shrinkT S3.budget r0 S4.trial).2.2); rw [HTN.out]; exact HST2.out)⟩
                    · rw [HAS.out, List.length_append, List.length_singleton]
                      exact hf5.own HOW1.out (fun q hq e => HV1.out q hq e)
                    · intro q hq e
                      rcases e with e | e
                      · exact HV1.out q hq e
                      · have h1 := hv5 q e
                        have h2 := own_lt HOW1.out q hq
                        omega
                  have HME : Hid (rmeas g (w5.setCell ⟨g, 3, none⟩ (.slice A' m' c')) < rmeas g wr) := by
                    show _ < _
                    rw [hri.rmeas, HI6.out.rmeas]
                    show S4.trial.length + r0.length < _
                    have h1 := HLN2.out.2
                    rw [HTN.out] at h1 ⊢
                    exact h1
                  have qc := (HC7.out.lift hb5).blk.cell 3
                  change w5.cell? ⟨g, 3, none⟩ = some (.slice (some ⟨gr, 0, none⟩) Xr4.length c) at qc
                  have fc := (HC7.out.lift hb5).blk.frozen 3
                  clear hri hf5 hv5 hb5 qv HCU2
                  go_wp2
                  go_roundw
                  case rel => exact HREL.out
                  case measure => exact HME.out
end Go.Proofs.Ytjijdpdbkpknpaa
