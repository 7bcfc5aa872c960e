/-
  The walk of the document's Drop. Conditions: the cache lies as its state says; the keys lie outside of it.
-/
import Derived.Test.YtjijdpdbkpknpaaRcPeek
import Derived.Deep.Cut
import Derived.Deep.CutRange
namespace Go.Proofs.Ytjijdpdbkpknpaa
open Go Go.RowKit

theorem one_true {b : Bool} (h : b = true) : one b = 1 := by rw [h]; rfl
theorem one_false {b : Bool} (h : b = false) : one b = 0 := by rw [h]; rfl
def DropRel2 (W : World) (M : Nat → Prop) (B g : Nat) (S : CS) (ks : List ByteArray) (j n : Nat) (w : World) : Prop :=
  ∃ S1, RefTo W M B g S1 w ∧ n ≤ 2 * j ∧ (dropS S ks).1 = (dropS S1 (ks.drop j)).1 ∧ (dropS S ks).2 = n + (dropS S1 (ks.drop j)).2

set_option maxRecDepth 100000 in
set_option maxHeartbeats 4000000 in
theorem rdrop_any {W : World} {M : Nat → Prop} {B g : Nat} {S : CS} (H : RefAt W M B g S) (ks : List ByteArray) (A : Option Addr) (n c : Nat) {D : Nat → Prop} (hn : n = ks.length) (hl : ks.length ≤ 100000) (hk : ReadsD W D 1 A n (strs ks)) (hD : ∀ q, D q → ¬ M q) :
    Calls Try.prog 26 #[.pointer (some ⟨g, 0, none⟩), .slice A n c] W fun e W' => e = .returned (.int .i64 ((dropS S ks).2 : Nat)) ∧ RefTo W M B g (dropS S ks).1 W' := by
  subst hn
  have HKS := hide hk
  have HD := hide hD
  have HR0 := hide (RefTo.refl H)
  clear hk hD H
  go_enter Try.func26, Try.ntmps26
  go_wp2_with fail
  go_loopw [5, 6] (fun m i wr => Hid (∃ j n : Nat, j ≤ ks.length ∧ i = .int .i64 (j : Int) ∧ m = .int .i64 (n : Int) ∧ DropRel2 W M B g S ks j n wr)) (fun _ i _ => ks.length - (intOf i).toNat)
  case atStart => exact hide ⟨0, 0, Nat.zero_le _, rfl, rfl, S, HR0.out, by omega, by rw [List.drop_zero], by rw [List.drop_zero]; omega⟩
  case round =>
    obtain ⟨j, n, hj, rfl, rfl, S1, ⟨M1, ⟨vt, vr, Xt, Xr, h⟩, hM1, hf1⟩, hn2, hd1, hd2⟩ := hrel.out
    clear hrel
    have HIN := hide h
    have HM1 := hide hM1
    have HF1 := hide hf1
    clear h hM1 hf1
    by_cases hlt : j < ks.length
    · obtain ⟨ad, rfl, hDad, hxx⟩ := HKS.out.2 (by omega)
      clear hxx
      have HKY : Hid (∀ x, Fr M W x → x.cell? (ad.add j) = some (.string ks[j])) := fun x hx => by
        obtain ⟨ad', e, _, hc⟩ := (HKS.out.fr hx HD.out).2 (by omega)
        cases e
        exact hc j (.string ks[j]) (by simp [strs, hlt])
      rw [List.drop_eq_getElem_cons hlt] at hd1 hd2
      have HD1 := hide hd1
      have HD2 := hide hd2
      clear hd1 hd2 hDad
      generalize ks[j] = key at *
      have HK2 : Hid (∀ x, Below wr.heap.size wr x → x.cell? ⟨g, 2, none⟩ = some vt ∧ x.cell? (ad.add j) = some (.string key) ∧ Calls Try.prog 45 #[vt, .string key] x fun e w' => e = .returned (.int .i64 (idxI key S1.trial)) ∧ Below x.heap.size x w') := fun x hx => ⟨(HIN.out.lift hx).blk.cell 2, HKY.out x (HF1.out.trans (Fr.of_below hx M) (fun _ _ e => e)), (HIN.out.lift hx).at2 key⟩
      have i1 : (0 : Int) ≤ (j : Int) := by omega
      have i2 : (j : Int) < (ks.length : Int) := by omega
      go_wp2_with fail
      refine wp_region_assert (listV [isV (.pointer (some ⟨g, 0, none⟩)), isV (.pointer (some ⟨g, 0, none⟩)), isV (.pointer (some ⟨g, 2, none⟩)), isV (vt), isV (.slice (some ad) ks.length c), isV (.int .i64 (j : Int)), isV (.pointer (some (ad.add j))), isV (.string key), isV (.int .i64 (idxI key S1.trial)), isV (.int .i64 (idxI key S1.trial))]) (by kernel_rfl) (by kernel_rfl) (listV_stable ?_) ?_ ?_
      · exact ⟨isV_stable _, isV_stable _, isV_stable _, isV_stable _, isV_stable _, isV_stable _, isV_stable _, isV_stable _, isV_stable _, isV_stable _, trivial⟩
      refine ⟨fun vs wk hbk hd => ?_, fun vs wk hbk hd => ?_, fun vs wk hbk hd => ?_, fun vs wk hbk hd => ?_, fun vs wk hbk hd => ?_, fun vs wk hbk hd => ?_, fun vs wk hbk hd => ?_, fun vs wk hbk hd => ?_, fun vs wk hbk hd => ?_, fun vs wk hbk hd => ?_, trivial⟩
      -- 0: Op.move t0
      · clear hd
        go_wp2
        exact ⟨rfl, rfl, rfl, Below.refl _ _⟩
      -- 1: Op.nilCheck t14
      · simp only [Act.put, List.setIfInBounds_toArray, List.set_cons_zero, List.set_cons_succ]
        have e0 : vs 0 = .pointer (some ⟨g, 0, none⟩) := hd 0 (by kernel_rfl)
        clear hd
        go_wp2
        first | exact ⟨rfl, rfl, rfl, Below.refl _ _⟩ | exact ⟨rfl, rfl, e0, Below.refl _ _⟩
      -- 2: Op.fieldAddr 64 t15 2
      · simp only [Act.put, List.setIfInBounds_toArray, List.set_cons_zero, List.set_cons_succ, Nat.reduceAdd]
        have e1 : vs 1 = .pointer (some ⟨g, 0, none⟩) := hd 1 (by kernel_rfl)
        clear hd
        go_wp2
        first | exact ⟨rfl, rfl, rfl, Below.refl _ _⟩ | exact ⟨rfl, rfl, e1, Below.refl _ _⟩
      -- 3: Op.load 46 t16
      · simp only [Act.put, List.setIfInBounds_toArray, List.set_cons_zero, List.set_cons_succ, Nat.reduceAdd]
        have e2 : vs 2 = .pointer (some ⟨g, 2, none⟩) := hd 2 (by kernel_rfl)
        clear hd
        have hq := (HK2.out wk (undrew hbk)).1
        go_wp2
        first | exact ⟨rfl, rfl, rfl, Below.refl _ _⟩ | exact ⟨rfl, rfl, e2, Below.refl _ _⟩
      -- 4: Op.move t1
      · simp only [Act.put, List.setIfInBounds_toArray, List.set_cons_zero, List.set_cons_succ, Nat.reduceAdd]
        clear hd
        go_wp2
        exact ⟨rfl, rfl, rfl, Below.refl _ _⟩
      -- 5: Op.move t6
      · simp only [Act.put, List.setIfInBounds_toArray, List.set_cons_zero, List.set_cons_succ, Nat.reduceAdd]
        clear hd
        go_wp2
        exact ⟨rfl, rfl, rfl, Below.refl _ _⟩
      -- 6: Op.indexAddr 28 t18 t19
      · simp only [Act.put, List.setIfInBounds_toArray, List.set_cons_zero, List.set_cons_succ, Nat.reduceAdd]
        have e4 : vs 4 = .slice (some ad) ks.length c := hd 4 (by kernel_rfl)
        have e5 : vs 5 = .int .i64 (j : Int) := hd 5 (by kernel_rfl)
        clear hd
        go_wp2
        first | exact ⟨rfl, rfl, rfl, Below.refl _ _⟩ | exact ⟨rfl, rfl, e5, Below.refl _ _⟩ | exact ⟨rfl, rfl, e4, Below.refl _ _⟩
      -- 7: Op.load 9 t20
      · simp only [Act.put, List.setIfInBounds_toArray, List.set_cons_zero, List.set_cons_succ, Nat.reduceAdd]
        have e6 : vs 6 = .pointer (some (ad.add j)) := hd 6 (by kernel_rfl)
        clear hd
        have hq := (HK2.out wk (undrew hbk)).2.1
        go_wp2
        first | exact ⟨rfl, rfl, rfl, Below.refl _ _⟩ | exact ⟨rfl, rfl, e6, Below.refl _ _⟩
      -- 8: Op.call { value (Operand.func 45), args := #[t17, t21], argTypes := #[
      · simp only [Act.put, List.setIfInBounds_toArray, List.set_cons_zero, List.set_cons_succ, Nat.reduceAdd]
        have e3 : vs 3 = vt := hd 3 (by kernel_rfl)
        have e7 : vs 7 = .string key := hd 7 (by kernel_rfl)
        clear hd
        have hco := (HK2.out wk (undrew hbk)).2.2
        go_wp2_with fail
        refine hco.mono ?_
        rintro e w' ⟨rfl, hb'⟩
        clear hco
        go_wp2
        exact ⟨rfl, rfl, rfl, hb'⟩
      -- 9: Op.assign t22
      · simp only [Act.put, List.setIfInBounds_toArray, List.set_cons_zero, List.set_cons_succ, Nat.reduceAdd]
        have e8 : vs 8 = .int .i64 (idxI key S1.trial) := hd 8 (by kernel_rfl)
        clear hd
        go_wp2
        first | exact ⟨rfl, rfl, rfl, Below.refl _ _⟩ | exact ⟨rfl, rfl, e8, Below.refl _ _⟩
      intro vs wk hbk hd
      simp only [putAll, Act.put, List.setIfInBounds_toArray, List.set_cons_zero, List.set_cons_succ, Nat.reduceAdd]
      have e9 : vs 9 = .int .i64 (idxI key S1.trial) := hd 9 (by decide)
      clear hd
      simp only [e9]
      clear e9
      have HB1 := hide (undrew hbk)
      have HI1 := hide (HIN.out.lift HB1.out)
      clear hbk HK2
      go_upto_if 24 with fail
      go_cut [5, 7] from 8 to 57 (fun s5 s7 wx => s5 = .int .i64 ((n + one (has key S1.trial) : Nat) : Int) ∧ RefTo W M B g { S1 with trial := del key S1.trial } wx)
      case first =>
        cases hT : has key S1.trial with
        | true =>
          rw [idx_yes hT]
          have hi : atK key S1.trial < S1.trial.length := of_decide_eq_true hT
          have HCU := hide (HI1.out.cut2 _ hi)
          have HOT : Hid (one (has key S1.trial) = 1) := one_true hT
          have HDE : Hid (({ S1 with trial := del key S1.trial } : CS) = { S1 with trial := S1.trial.eraseIdx (atK key S1.trial) }) := rfl
          have q2 : wk.cell? ⟨g, 2, none⟩ = some vt := HI1.out.blk.cell 2
          have hk0 : (0 : Int) ≤ ((atK key S1.trial : Nat) : Int) := by omega
          clear hT hi
          generalize atK key S1.trial = a at *
          go_wp2_with fail
          refine (unhide HCU).mono ?_
          rintro e w5 ⟨A', m', c', rfl, hb5, hri, hf5, hv5⟩
          have HRI := hide hri
          have HF5 := hide hf5
          have HV5 := hide hv5
          have q3 : w5.cell? ⟨g, 2, none⟩ = some vt := (HI1.out.lift hb5).blk.cell 2
          have f3 := (HI1.out.lift hb5).blk.frozen 2
          clear hri hf5 hv5 hb5 q2 HCU
          go_wp2
          go_meet
          refine ⟨by rw [HOT.out]; go_num, ?_⟩
          rw [HDE.out]
          exact ⟨_, ⟨_, _, _, _, HRI.out⟩, Grown.sub HM1.out (Nat.le_trans HF1.out.size HB1.out.size) (fun q hq => .inr (HV5.out q hq)), (HF1.out.trans (Fr.of_below HB1.out M1) (fun q hq e => by
            rcases HM1.out q e with k | k
            · exact k
            · omega)).trans HF5.out (fun q hq e => by
            rcases HM1.out q e with k | k
            · exact k
            · omega)⟩
        | false =>
          rw [idx_no hT]
          go_wp2
          go_meet
          refine ⟨by rw [one_false hT]; rfl, ?_⟩
          have e : ({ S1 with trial := del key S1.trial } : CS) = S1 := by rw [del_no hT]
          rw [e]
          exact ⟨M1, ⟨vt, vr, Xt, Xr, HI1.out⟩, HM1.out, HF1.out.trans (Fr.of_below HB1.out M) (fun _ _ e => e)⟩
      case rest =>
        obtain ⟨rfl, M2, ⟨vt2, vr2, Xt2, Xr2, h2⟩, hM2, hf2⟩ := hcut
        have HIN2 := hide h2
        have HM2 := hide hM2
        have HF2 := hide hf2
        clear h2 hM2 hf2 HI1 HB1 HIN HF1 HM1
        have HK3 : Hid (∀ x, Below wc.heap.size wc x → x.cell? ⟨g, 3, none⟩ = some vr2 ∧ x.cell? (ad.add j) = some (.string key) ∧ Calls Try.prog 45 #[vr2, .string key] x fun e w' => e = .returned (.int .i64 (idxI key S1.rest)) ∧ Below x.heap.size x w') := fun x hx => ⟨(HIN2.out.lift hx).blk.cell 3, HKY.out x (HF2.out.trans (Fr.of_below hx M) (fun _ _ e => e)), (HIN2.out.lift hx).at3 key⟩
        have ho1 : n + one (has key S1.trial) ≤ 2 * j + 1 := by
          have h1 : ∀ b, one b ≤ 1 := by decide
          have := h1 (has key S1.trial)
          omega
        have HN1 : Hid (n + one (has key S1.trial) + one (has key S1.rest) = n + (one (has key S1.trial) + one (has key S1.rest))) := Nat.add_assoc _ _ _
        generalize n + one (has key S1.trial) = n1 at *
        go_wp2_with fail
        refine wp_region_assert (listV [isV (.pointer (some ⟨g, 0, none⟩)), isV (.pointer (some ⟨g, 0, none⟩)), isV (.pointer (some ⟨g, 3, none⟩)), isV (vr2), isV (.slice (some ad) ks.length c), isV (.int .i64 (j : Int)), isV (.pointer (some (ad.add j))), isV (.string key), isV (.int .i64 (idxI key S1.rest)), isV (.int .i64 (idxI key S1.rest))]) (by kernel_rfl) (by kernel_rfl) (listV_stable ?_) ?_ ?_
        · exact ⟨isV_stable _, isV_stable _, isV_stable _, isV_stable _, isV_stable _, isV_stable _, isV_stable _, isV_stable _, isV_stable _, isV_stable _, trivial⟩
        refine ⟨fun vs wk hbk hd => ?_, fun vs wk hbk hd => ?_, fun vs wk hbk hd => ?_, fun vs wk hbk hd => ?_, fun vs wk hbk hd => ?_, fun vs wk hbk hd => ?_, fun vs wk hbk hd => ?_, fun vs wk hbk hd => ?_, fun vs wk hbk hd => ?_, fun vs wk hbk hd => ?_, trivial⟩
        -- 0: Op.move t0
        · clear hd
          go_wp2
          exact ⟨rfl, rfl, rfl, Below.refl _ _⟩
        -- 1: Op.nilCheck t36
        · simp only [Act.put, List.setIfInBounds_toArray, List.set_cons_zero, List.set_cons_succ]
          have e0 : vs 0 = .pointer (some ⟨g, 0, none⟩) := hd 0 (by kernel_rfl)
          clear hd
          go_wp2
          first | exact ⟨rfl, rfl, rfl, Below.refl _ _⟩ | exact ⟨rfl, rfl, e0, Below.refl _ _⟩
        -- 2: Op.fieldAddr 64 t37 3
        · simp only [Act.put, List.setIfInBounds_toArray, List.set_cons_zero, List.set_cons_succ, Nat.reduceAdd]
          have e1 : vs 1 = .pointer (some ⟨g, 0, none⟩) := hd 1 (by kernel_rfl)
          clear hd
          go_wp2
          first | exact ⟨rfl, rfl, rfl, Below.refl _ _⟩ | exact ⟨rfl, rfl, e1, Below.refl _ _⟩
        -- 3: Op.load 46 t38
        · simp only [Act.put, List.setIfInBounds_toArray, List.set_cons_zero, List.set_cons_succ, Nat.reduceAdd]
          have e2 : vs 2 = .pointer (some ⟨g, 3, none⟩) := hd 2 (by kernel_rfl)
          clear hd
          have hq := (HK3.out wk (undrew hbk)).1
          go_wp2
          first | exact ⟨rfl, rfl, rfl, Below.refl _ _⟩ | exact ⟨rfl, rfl, e2, Below.refl _ _⟩
        -- 4: Op.move t1
        · simp only [Act.put, List.setIfInBounds_toArray, List.set_cons_zero, List.set_cons_succ, Nat.reduceAdd]
          clear hd
          go_wp2
          exact ⟨rfl, rfl, rfl, Below.refl _ _⟩
        -- 5: Op.move t6
        · simp only [Act.put, List.setIfInBounds_toArray, List.set_cons_zero, List.set_cons_succ, Nat.reduceAdd]
          clear hd
          go_wp2
          exact ⟨rfl, rfl, rfl, Below.refl _ _⟩
        -- 6: Op.indexAddr 28 t40 t41
        · simp only [Act.put, List.setIfInBounds_toArray, List.set_cons_zero, List.set_cons_succ, Nat.reduceAdd]
          have e4 : vs 4 = .slice (some ad) ks.length c := hd 4 (by kernel_rfl)
          have e5 : vs 5 = .int .i64 (j : Int) := hd 5 (by kernel_rfl)
          clear hd
          go_wp2
          first | exact ⟨rfl, rfl, rfl, Below.refl _ _⟩ | exact ⟨rfl, rfl, e5, Below.refl _ _⟩ | exact ⟨rfl, rfl, e4, Below.refl _ _⟩
        -- 7: Op.load 9 t42
        · simp only [Act.put, List.setIfInBounds_toArray, List.set_cons_zero, List.set_cons_succ, Nat.reduceAdd]
          have e6 : vs 6 = .pointer (some (ad.add j)) := hd 6 (by kernel_rfl)
          clear hd
          have hq := (HK3.out wk (undrew hbk)).2.1
          go_wp2
          first | exact ⟨rfl, rfl, rfl, Below.refl _ _⟩ | exact ⟨rfl, rfl, e6, Below.refl _ _⟩
        -- 8: Op.call { value (Operand.func 45), args := #[t39, t43], argTypes := #[
        · simp only [Act.put, List.setIfInBounds_toArray, List.set_cons_zero, List.set_cons_succ, Nat.reduceAdd]
          have e3 : vs 3 = vr2 := hd 3 (by kernel_rfl)
          have e7 : vs 7 = .string key := hd 7 (by kernel_rfl)
          clear hd
          have hco := (HK3.out wk (undrew hbk)).2.2
          go_wp2_with fail
          refine hco.mono ?_
          rintro e w' ⟨rfl, hb'⟩
          clear hco
          go_wp2
          exact ⟨rfl, rfl, rfl, hb'⟩
        -- 9: Op.assign t44
        · simp only [Act.put, List.setIfInBounds_toArray, List.set_cons_zero, List.set_cons_succ, Nat.reduceAdd]
          have e8 : vs 8 = .int .i64 (idxI key S1.rest) := hd 8 (by kernel_rfl)
          clear hd
          go_wp2
          first | exact ⟨rfl, rfl, rfl, Below.refl _ _⟩ | exact ⟨rfl, rfl, e8, Below.refl _ _⟩
        intro vs wk hbk hd
        simp only [putAll, Act.put, List.setIfInBounds_toArray, List.set_cons_zero, List.set_cons_succ, Nat.reduceAdd]
        have e9 : vs 9 = .int .i64 (idxI key S1.rest) := hd 9 (by decide)
        clear hd
        simp only [e9]
        clear e9
        have HB2 := hide (undrew hbk)
        have HI2 := hide (HIN2.out.lift HB2.out)
        clear hbk HK3
        have hn3 : n1 + one (has key S1.rest) ≤ 2 * (j + 1) := by
          have h1 : ∀ b, one b ≤ 1 := by decide
          have := h1 (has key S1.rest)
          omega
        cases hT : has key S1.rest with
        | true =>
          rw [idx_yes hT]
          have hi : atK key S1.rest < S1.rest.length := of_decide_eq_true hT
          have HCU := hide (HI2.out.cut3 (atK key S1.rest) hi)
          have HOT : Hid (one (has key S1.rest) = 1) := one_true hT
          have HDE : Hid (({ S1 with trial := del key S1.trial, rest := del key S1.rest } : CS) = { S1 with trial := del key S1.trial, rest := S1.rest.eraseIdx (atK key S1.rest) }) := rfl
          have q2 : wk.cell? ⟨g, 3, none⟩ = some vr2 := HI2.out.blk.cell 3
          have hk0 : (0 : Int) ≤ ((atK key S1.rest : Nat) : Int) := by omega
          have hn4 : n1 + 1 ≤ 2 * (j + 1) := by rw [HOT.out] at hn3; exact hn3
          clear hT hi
          generalize atK key S1.rest = a at *
          go_wp2_with fail
          refine (unhide HCU).mono ?_
          rintro e w5 ⟨A', m', c', rfl, hb5, hri, hf5, hv5⟩
          have HKR : Hid (DropRel2 W M B g S ks (j + 1) (n1 + 1) (w5.setCell ⟨g, 3, none⟩ (.slice A' m' c'))) := by
            refine ⟨{ S1 with trial := del key S1.trial, rest := del key S1.rest }, ?_, hn4, ?_, ?_⟩
            · rw [HDE.out]
              exact ⟨_, ⟨_, _, _, _, hri⟩, Grown.sub HM2.out (Nat.le_trans HF2.out.size HB2.out.size) (fun q hq => .inr (hv5 q hq)), (HF2.out.trans (Fr.of_below HB2.out M2) (fun q hq e => by
                rcases HM2.out q e with k | k
                · exact k
                · omega)).trans hf5 (fun q hq e => by
                rcases HM2.out q e with k | k
                · exact k
                · omega)⟩
            · rw [HD1.out]; rfl
            · rw [HD2.out, ← HOT.out, HN1.out]
              show n + (one (has key S1.trial) + one (has key S1.rest) + _) = n + (one (has key S1.trial) + one (has key S1.rest)) + _
              omega
          have q3 : w5.cell? ⟨g, 3, none⟩ = some vr2 := (HI2.out.lift hb5).blk.cell 3
          have f3 := (HI2.out.lift hb5).blk.frozen 3
          clear hri hf5 hv5 hb5 q2 HCU hn3
          go_wp2
          go_roundw
          case rel => exact hide ⟨j + 1, n1 + 1, by omega, by go_num, by go_num, HKR.out⟩
          case measure => simp [intOf]; omega
        | false =>
          rw [idx_no hT]
          have HOT : Hid (one (has key S1.rest) = 0) := one_false hT
          have HKR : Hid (DropRel2 W M B g S ks (j + 1) n1 wk) := by
            refine ⟨{ S1 with trial := del key S1.trial, rest := del key S1.rest }, ?_, by omega, ?_, ?_⟩
            · have e : ({ S1 with trial := del key S1.trial, rest := del key S1.rest } : CS) = { S1 with trial := del key S1.trial } := by rw [del_no hT]
              rw [e]
              exact ⟨M2, ⟨vt2, vr2, Xt2, Xr2, HI2.out⟩, HM2.out, HF2.out.trans (Fr.of_below HB2.out M) (fun _ _ e => e)⟩
            · rw [HD1.out]; rfl
            · have hz : n1 = n + (one (has key S1.trial) + one (has key S1.rest)) := by rw [← HN1.out, HOT.out]; rfl
              rw [HD2.out, hz]
              show n + (one (has key S1.trial) + one (has key S1.rest) + _) = n + (one (has key S1.trial) + one (has key S1.rest)) + _
              omega
          clear hT hn3
          go_wp2
          go_roundw
          case rel => exact hide ⟨j + 1, n1, by omega, by go_num, rfl, HKR.out⟩
          case measure => simp [intOf]; omega
    · obtain rfl : j = ks.length := by omega
      rw [List.drop_length] at hd1 hd2
      have HE1 : Hid ((dropS S ks).1 = S1) := hd1
      have HE2 : Hid ((dropS S ks).2 = n) := hd2
      clear hd1 hd2
      go_wp2
      go_ret
      rw [HE1.out, HE2.out]
      exact ⟨rfl, M1, ⟨vt, vr, Xt, Xr, HIN.out⟩, HM1.out, HF1.out⟩
end Go.Proofs.Ytjijdpdbkpknpaa
