/-
  The walks of slices.Grow and slices.Concat over rows. Conditions: two slices of rows that read so, together not too many.
-/
import Derived.Test.YtogjdfiimflbaaaJrSettle
import Derived.Lib.AppendZeros
namespace Go.Proofs.Ytogjdfiimflbaaa
open Go Go.RowKit

set_option maxRecDepth 100000 in
set_option maxHeartbeats 1000000 in
theorem grow_any (n : Nat) (W : World) (h1 : 1 ≤ n) (h2 : n ≤ 1000000) :
    Calls Try.prog 47 #[.slice none 0 0, .int .i64 (n : Int)] W fun e W' => ∃ v, e = .returned v ∧ W'.ownsRow W.heap.size 22 1 v 0 [] ∧ Below W.heap.size W W' := by
  obtain ⟨ir, hir, hr0, hr1, hr2⟩ := info_parts info_rows
  have HR := hide (Lib.run_append_nil_zeros (P := Try.prog) W 43 3 43 22 ir (.slice none 0 0) .i64 .i64 Try.underlying43 Try.underlying3 hir hr0 n h1 (by rw [hr1]; omega) (by omega) (by rw [hr2]; omega))
  have hc := grownCap_ge W n 0 22
  have hcm := grownCap_le_maxLen W n 0 22 (by simp only [maxLen]; omega)
  have HB : Hid (Below W.heap.size W (W.drew.alloc (.cells (Builtin.zeroCells (Value.slice none 0 0).cells n ++ Builtin.zeroCells (Value.slice none 0 0).cells (grownCap W n 0 22 - n)) 22))) := (Below.refl _ _).drew.alloc (Nat.le_refl _) _
  have HBL : Hid (Blk (W.drew.alloc (.cells (Builtin.zeroCells (Value.slice none 0 0).cells n ++ Builtin.zeroCells (Value.slice none 0 0).cells (grownCap W n 0 22 - n)) 22)) W.heap.size 22 (Builtin.zeroCells (Value.slice none 0 0).cells n ++ Builtin.zeroCells (Value.slice none 0 0).cells (grownCap W n 0 22 - n))) := Blk.new W.drew _ _
  have t1 : decide ((n : Int) < 0) = false := decide_eq_false (by omega)
  have t2 : decide ((n : Int) > 0) = true := decide_eq_true (by omega)
  have t3 : decide (n > 0) = true := decide_eq_true (by omega)
  generalize grownCap W n 0 22 = k at *
  have i1 : (0 : Int) ≤ (k : Int) := by omega
  go_enter Try.func47, Try.ntmps47
  go_wp2_with (at_builtin; refine Lib.wpList_append_run _ rfl (.tmp 20) (.tmp 21) 43 3 rfl (.slice none 0 0) (.int .i64 (n : Int)) rfl rfl _ _ HR.out ?_)
  go_ret
  refine ⟨_, rfl, ⟨rfl, .inr ⟨W.heap.size, k, _, rfl, Nat.le_refl _, HBL.out, Nat.zero_le _, hcm, ?_, rfl⟩⟩, HB.out⟩
  rw [Array.size_append, size_zeroCells, size_zeroCells]
  show n * 1 + (k - n) * 1 = k * 1
  omega
theorem rows_reads {W : World} {A : Option Addr} {ls : List (List UInt8)} (h : RowsBlk W A ls) : ∃ vs, SecVs W (fun _ => True) vs ls ∧ (∀ u ∈ vs, u.oneCell' = true) ∧ ∀ x, Below W.heap.size W x → Reads x x.heap.size 1 A ls.length vs := by
  rcases Nat.eq_zero_or_pos ls.length with h0 | h0
  · rw [List.eq_nil_of_length_eq_zero h0]
    exact ⟨[], .nil, fun u hu => by simp at hu, fun x _ => ⟨rfl, fun h => absurd h (by simp)⟩⟩
  · obtain ⟨gr, cur, rfl, hb, hc⟩ := h h0
    have hsz : ls.length ≤ cur.size := by
      obtain ⟨_, _, _, h1, _⟩ := hc (ls.length - 1) (by omega)
      have := (Array.getElem?_eq_some_iff.1 h1).1
      omega
    have hv : SecVs W (fun _ => True) (cur.toList.take ls.length) ls := ⟨List.length_take_of_le (by simpa using hsz), fun i u b h1 h2 => by
      obtain ⟨hi, e⟩ := List.getElem?_eq_some_iff.1 h2
      subst e
      obtain ⟨gi, ci, cu, k1, k2, k3, k4⟩ := hc i hi
      rw [List.getElem?_take_of_lt hi, Array.getElem?_toList, k1] at h1
      injection h1 with h1
      exact ⟨gi, ci, cu, h1.symm, k2, k3, k4, trivial⟩⟩
    refine ⟨_, hv, fun u hu => ?_, fun x hx => ⟨by rw [hv.1, Nat.mul_one], fun _ => ⟨_, rfl, Nat.lt_of_lt_of_le hb.lt hx.size, fun j u hu => ?_⟩⟩⟩
    · obtain ⟨i, hi⟩ := List.mem_iff_getElem?.1 hu
      have hil : i < ls.length := by
        have := (List.getElem?_eq_some_iff.1 hi).1
        rw [hv.1] at this
        exact this
      exact (hv.2 i u _ hi (List.getElem?_eq_getElem hil)).one
    · have hj : j < ls.length := by
        have := (List.getElem?_eq_some_iff.1 hu).1
        rw [hv.1] at this
        exact this
      rw [List.getElem?_take_of_lt hj, Array.getElem?_toList] at hu
      rw [add_flat, Nat.zero_add, (hb.below hx hb.lt).cell]
      exact hu
set_option maxRecDepth 100000 in
set_option maxHeartbeats 4000000 in
theorem concat_any {W : World} {gq n1 n2 c1 c2 : Nat} {A1 A2 : Option Addr} {l1 l2 : List (List UInt8)} (r0 : W.cell? ⟨gq, 0, none⟩ = some (.slice A1 n1 c1)) (r1 : W.cell? ⟨gq, 1, none⟩ = some (.slice A2 n2 c2)) (hgq : gq < W.heap.size) (h1 : RowsBlk W A1 l1) (h2 : RowsBlk W A2 l2) (e1 : n1 = l1.length) (e2 : n2 = l2.length) (p1 : 1 ≤ l1.length) (p2 : 1 ≤ l2.length) (hl : l1.length + l2.length ≤ 100000) :
    Calls Try.prog 32 #[.slice (some ⟨gq, 0, none⟩) 2 2] W fun e W' => ∃ A c, e = .returned (.slice A (l1.length + l2.length) c) ∧ RowsBlk W' A (l1 ++ l2) ∧ Below W.heap.size W W' := by
  subst e1
  subst e2
  obtain ⟨vs1, hs1, ho1, hr1'⟩ := rows_reads h1
  obtain ⟨vs2, hs2, ho2, hr2'⟩ := rows_reads h2
  have HS1 := hide hs1
  have HS2 := hide hs2
  have HR1 := hide hr1'
  have HR2 := hide hr2'
  have HO1 := hide ho1
  have HO2 := hide ho2
  have HC0 : Hid (∀ x, Below W.heap.size W x → x.cell? ⟨gq, 0, none⟩ = some (.slice A1 l1.length c1) ∧ x.cell? ⟨gq, 1, none⟩ = some (.slice A2 l2.length c2)) := fun x hx => ⟨(hx.cell hgq).trans r0, (hx.cell hgq).trans r1⟩
  obtain ⟨ir, hir, hr0, hr1, hr2⟩ := info_parts info_rows
  have HIR := hide hir
  have hv1 := hs1.1
  have hv2 := hs2.1
  clear h1 h2 hs1 hs2 hr1' hr2' ho1 ho2 r0 r1 hir
  have h2l : l1.length + l2.length = l1.length + l2.length := rfl
  generalize hn1 : l1.length = n1 at *
  generalize hn2 : l2.length = n2 at *
  have HE1 := hide hn1
  have HE2 := hide hn2
  clear hn1 hn2 h2l
  have HBE : Hid (Below W.heap.size W W) := Below.refl _ _
  go_enter Try.func32, Try.ntmps32
  go_wp2
  go_loopw [3, 11] (fun s i wr => ∃ k : Nat, k ≤ 2 ∧ i = .int .i64 k ∧ (k = 0 → s = .int .i64 0) ∧ (k = 1 → s = .int .i64 (n1 : Int)) ∧ (k = 2 → s = .int .i64 ((n1 + n2 : Nat) : Int)) ∧ W = wr) (fun _ i _ => 2 - (intOf i).toNat)
  case atStart => exact ⟨0, by omega, rfl, fun _ => rfl, fun h => absurd h (by omega), fun h => absurd h (by omega), rfl⟩
  case round =>
    obtain ⟨k, hk, rfl, hs0, hs1, hs2, rfl⟩ := hrel
    rcases (by omega : k = 0 ∨ k = 1 ∨ k = 2) with rfl | rfl | rfl
    · obtain rfl := hs0 rfl
      obtain ⟨r0, r1⟩ := HC0.out _ (Below.refl _ _)
      clear hs0 hs1 hs2
      have t1 : decide ((n1 : Int) < 0) = false := decide_eq_false (by omega)
      rw [show ((0 : Nat) : Int) = 0 from rfl]
      go_wp2
      go_roundw
      case rel => exact ⟨1, by omega, rfl, fun h => absurd h (by omega), fun _ => rfl, fun h => absurd h (by omega), trivial⟩
      case measure => simp [intOf]
    · obtain rfl := hs1 rfl
      obtain ⟨r0, r1⟩ := HC0.out _ (Below.refl _ _)
      clear hs0 hs1 hs2
      have t1 : decide ((n1 : Int) + (n2 : Int) < 0) = false := decide_eq_false (by omega)
      rw [show ((1 : Nat) : Int) = 1 from rfl]
      go_wp2
      go_roundw
      case rel => exact ⟨2, by omega, rfl, fun h => absurd h (by omega), fun h => absurd h (by omega), fun _ => by go_num, trivial⟩
      case measure => simp [intOf]
    · obtain rfl := hs2 rfl
      clear hs0 hs1 hs2
      have HG := hide (grow_any (n1 + n2) W (by omega) (by omega))
      rw [show ((2 : Nat) : Int) = 2 from rfl]
      go_wp2_with fail
      refine (unhide HG).mono ?_
      rintro e w1 ⟨v1, rfl, ho1, hb1⟩
      have HOW1 := hide ho1
      have HB1 := hide hb1
      clear ho1 hb1 HG
      go_wp2
      go_loopw [6, 27] (fun v i wr => ∃ k : Nat, k ≤ 2 ∧ i = .int .i64 k ∧ (k = 0 → wr.ownsRow W.heap.size 22 1 v 0 []) ∧ (k = 1 → wr.ownsRow W.heap.size 22 1 v n1 vs1) ∧ (k = 2 → wr.ownsRow W.heap.size 22 1 v (n1 + n2) (vs1 ++ vs2)) ∧ Below W.heap.size W wr) (fun _ i _ => 2 - (intOf i).toNat)
      case atStart => exact ⟨0, by omega, rfl, fun _ => HOW1.out, fun h => absurd h (by omega), fun h => absurd h (by omega), HB1.out⟩
      case round =>
        clear HOW1 HB1
        obtain ⟨k, hk, rfl, hs0, hs1, hs2, hbe⟩ := hrel
        have HBE := hide hbe
        have hszr := hbe.size
        clear hbe
        rcases (by omega : k = 0 ∨ k = 1 ∨ k = 2) with rfl | rfl | rfl
        · have HOW := hide (hs0 rfl)
          obtain ⟨r0, r1⟩ := HC0.out _ HBE.out
          have HRX : Hid (Reads wr wr.heap.size 1 A1 n1 vs1) := HR1.out _ HBE.out
          clear hs0 hs1 hs2
          rw [show ((0 : Nat) : Int) = 0 from rfl]
          go_wp2_with (at_builtin; refine wpList_append_any _ rfl (.tmp 31) (.tmp 32) _ rfl W.heap.size 22 ir _ 1 24 Try.underlying43 HIR.out hr0 hr1 hr2 rfl (by omega) u6 0 [] rfl HOW.out wr.heap.size A1 n1 c1 vs1 rfl HRX.out HO1.out (by simp only [maxLen]; omega) (by omega) hszr ?_; intro v9 W9 hown9 hg9 hat9)
          have HBE9 : Hid (Below W.heap.size W W9) := HBE.out.trans ((Fr.of_grown hg9).below hszr (fun q e => (HOW.out.lt q e).1))
          rw [Nat.zero_add] at hown9
          go_roundw
          case rel => exact ⟨1, by omega, rfl, fun h => absurd h (by omega), fun _ => hown9, fun h => absurd h (by omega), HBE9.out⟩
          case measure => simp [intOf]
        · have HOW := hide (hs1 rfl)
          obtain ⟨r0, r1⟩ := HC0.out _ HBE.out
          have HRX : Hid (Reads wr wr.heap.size 1 A2 n2 vs2) := HR2.out _ HBE.out
          clear hs0 hs1 hs2
          rw [show ((1 : Nat) : Int) = 1 from rfl]
          go_wp2_with (at_builtin; refine wpList_append_any _ rfl (.tmp 31) (.tmp 32) _ rfl W.heap.size 22 ir _ 1 24 Try.underlying43 HIR.out hr0 hr1 hr2 rfl (by omega) u6 n1 vs1 rfl HOW.out wr.heap.size A2 n2 c2 vs2 rfl HRX.out HO2.out (by simp only [maxLen]; omega) (by omega) hszr ?_; intro v9 W9 hown9 hg9 hat9)
          have HBE9 : Hid (Below W.heap.size W W9) := HBE.out.trans ((Fr.of_grown hg9).below hszr (fun q e => (HOW.out.lt q e).1))
          go_roundw
          case rel => exact ⟨2, by omega, rfl, fun h => absurd h (by omega), fun h => absurd h (by omega), fun _ => hown9, HBE9.out⟩
          case measure => simp [intOf]
        · have HOW := hide (hs2 rfl)
          clear hs0 hs1 hs2
          have HSA := hide ((HS1.out.below HBE.out).append (HS2.out.below HBE.out))
          obtain ⟨A9, c9, e9, hrb⟩ := rows_of_own HOW.out HSA.out
          have HRB := hide hrb
          clear hrb
          rw [show ((2 : Nat) : Int) = 2 from rfl]
          go_wp2
          go_ret
          subst e9
          exact ⟨A9, c9, rfl, HRB.out, HBE.out⟩
end Go.Proofs.Ytogjdfiimflbaaa
