/-
  The walk of icehouselaw12.CrcGrows. Conditions: the argument reads as a slice of bytes; the table half reads as the text lays it.
-/
import Derived.Test.YtenhjnicadjbaaaDoorCrcAwake
import Derived.Test.YtenhjnicadjbaaaDoorRefCrc
namespace Go.Proofs.YtenhjnicadjbaaaDoor
open Go Go.RowKit

theorem crc_step (l : List UInt8) (k : Nat) (h : k < l.length) : moreN (crcN (l.take k)) ([[l[k]], []] : List (List UInt8)).flatten = crcN (l.take (k + 1)) := by
  have : ([[l[k]], []] : List (List UInt8)).flatten = [l[k]] := rfl
  rw [this, take_snoc l k h]
  unfold moreN crcN
  rw [Nat.xor_assoc, Nat.xor_self, Nat.xor_zero, stN_append]

/-- two slices in a new block, known by their cells -/
theorem RowsAt.two_cells {W : World} {B g n1 n2 c1 c2 : Nat} {A1 A2 : Option Addr} {l1 l2 : List UInt8} (hg : g < B) (hn1 : n1 = l1.length) (hn2 : n2 = l2.length) (hc1 : l1.length ≤ c1) (hc2 : l2.length ≤ c2)
    (k1 : W.cell? ⟨g, 0, none⟩ = some (.slice A1 n1 c1)) (k2 : W.cell? ⟨g, 1, none⟩ = some (.slice A2 n2 c2)) (h1 : BytesAt W B A1 l1) (h2 : BytesAt W B A2 l2) : RowsAt W B (some ⟨g, 0, none⟩) [l1, l2] := fun _ => by
  subst hn1 hn2
  refine ⟨_, rfl, hg, fun i hi => ?_⟩
  match i, hi with
  | 0, _ => exact ⟨A1, c1, k1, hc1, h1⟩
  | 1, _ => exact ⟨A2, c2, by rw [add_flat]; exact k2, hc2, h2⟩
  | n + 2, h => exact absurd h (by simp)

set_option maxRecDepth 100000 in
set_option maxHeartbeats 1000000 in
theorem crcGrows_yes (l : List UInt8) (A : Option Addr) (n c : Nat) (w : World) (hn : n = l.length) (hl : l.length ≤ 600) (hc : l.length ≤ c) (hA : BytesAt w w.heap.size A l) (hh : HalfAt w) :
    Calls Tryd.prog 5 #[.slice A n c] w fun e w' => e = .returned (.bool true) ∧ Below w.heap.size w w' := by
  subst hn
  have HA := hide hA
  have HH := hide hh
  have h600 : decide ((600 : Int) < (l.length : Int)) = false := by simp; omega
  clear hA hh
  go_enter Tryd.func5, Tryd.ntmps5
  go_wp2_with fail
  refine (awake12 w (unhide HH)).mono ?_
  rintro e w1 ⟨rfl, hbe⟩
  have HE := hide hbe
  clear hbe
  go_wp2_with fail
  refine (sum_any [] none 0 0 0 _ rfl (by decide) (by decide) (RowsAt.nil _ _ _) ((unhide HH).below HE.out)).mono ?_
  rintro e w' ⟨rfl, rfl⟩
  have HY : Hid ((crcN ([] : List (List UInt8)).flatten : Nat) = crcN (l.take 0)) := rfl
  rw [HY.out]
  generalize hz : crcN (l.take 0) = z0
  have HZ := hide hz
  clear hz
  go_wp2_with fail
  go_loopw [3, 4] (fun r i wr => ∃ k : Nat, k ≤ l.length ∧ i = .int .i64 k ∧ r = .int .u32 (crcN (l.take k) : Nat) ∧ Below w.heap.size w wr) (fun _ i _ => l.length - (intOf i).toNat)
  case atStart => exact ⟨0, Nat.zero_le _, rfl, val_u32 (by rw [HZ.out]), HE.out⟩
  case round =>
    obtain ⟨k, hk, rfl, rfl, hbe⟩ := hrel
    have HB := hide hbe
    clear hbe
    by_cases hlt : k < l.length
    · have hsl := fun W => cut_mid8 A l.length c k (k + 1) (by omega) (by omega) W
      have hsl2 := fun W => cut_front8 A l.length c (k + 1) (by omega) W
      have e1 : ((k + 1 : Nat) : Int) = (k : Int) + 1 := by omega
      rw [if_neg (by omega), show k + 1 - k = 1 from by omega, e1] at hsl
      rw [e1] at hsl2
      have HM := hide (BytesAt.mid (unhide HA) (i := k) (j := k + 1) (c := c) (by omega) (by omega) hc)
      rw [if_neg (by omega), show k + 1 - k = 1 from by omega] at HM
      have hd1 : (l.drop k).take 1 = [l[k]] := by rw [List.drop_eq_getElem_cons hlt]; rfl
      rw [hd1] at HM
      generalize A.map (fun x => x.add k) = A1 at *
      have HC := hide (crc_step l k hlt)
      clear e1 hd1
      have hcl := crcN_lt (l.take k)
      generalize crcN (l.take k) = z at *
      go_wp2_with fail
      refine (more_any [[l[k]], []] _ 2 2 (wr.heap.size + 1) z _ rfl (by simp) (by simp) hcl ?_ ?_).mono ?_
      · exact RowsAt.two_cells (n1 := 1) (n2 := 0) (c1 := c - k) (c2 := 0) (by omega) rfl rfl (by simp; omega) (by simp) (cellN rfl rfl) (cellN rfl rfl) ((HM.out.lift HB.out (Nat.le_refl _)).lift (Below.alloc (Below.refl _ _) HB.out.size _) (by have := HB.out.size; omega)) (BytesAt.nil _ _ _)
      · exact (unhide HH).below (HB.out.alloc HB.out.size _)
      rintro e w' ⟨rfl, rfl⟩
      rw [HC.out]
      have HBe := hide (HB.out.alloc HB.out.size (.cells #[.slice A1 1 (c - k), .slice none 0 0] 23))
      have HT := hide (BytesAt.take (unhide HA) (k + 1))
      have htl : (l.take (k + 1)).length = k + 1 := by rw [List.length_take]; omega
      have HX := hide (fun (W : World) (hW : Below w.heap.size w W) => refSum_any (l.take (k + 1)) A (k + 1) c w.heap.size W htl.symm (by omega) (HT.out.lift hW (Nat.le_refl _)))
      clear htl hcl
      have HK : Hid (crcN (List.take (k + 1) l) = crcN (List.take (k + 1) l)) := rfl
      generalize hz2 : crcN (List.take (k + 1) l) = z2 at HX HC ⊢
      have HZ2 := hide hz2
      clear hz2 HK
      by_cases h50 : k % 50 = 0
      · have h5 : ((k : Int) % 50 == 0) = true := beq_iff_eq.2 (by omega)
        clear h50
        go_wp2_with fail
        refine (unhide HX _ (unhide HBe)).mono ?_
        rintro e w' ⟨rfl, rfl⟩
        go_wp2_with fail
        go_roundw
        case rel => exact ⟨k + 1, by omega, by go_num, val_u32 (by rw [HZ2.out]), HBe.out⟩
        case measure => simp [intOf]; omega
      · have h5 : ((k : Int) % 50 == 0) = false := beq_eq_false_iff_ne.2 (by omega)
        clear h50
        go_wp2_with fail
        go_roundw
        case rel => exact ⟨k + 1, by omega, by go_num, val_u32 (by rw [HZ2.out]), HBe.out⟩
        case measure => simp [intOf]; omega
    · have HX := hide (refSum_any l A l.length c w.heap.size wr rfl (by omega) ((unhide HA).lift HB.out (Nat.le_refl _)))
      rw [List.take_of_length_le (by omega)]
      generalize crcN l = z2 at *
      go_wp2_with fail
      refine (unhide HX).mono ?_
      rintro e w' ⟨rfl, rfl⟩
      go_wp2
      go_ret
      exact ⟨rfl, HB.out⟩

set_option maxRecDepth 100000 in
set_option maxHeartbeats 400000 in
theorem crcGrows_no (n c : Nat) (A : Option Addr) (w : World) (hn : 600 < n) (hh : HalfAt w) :
    Calls Tryd.prog 5 #[.slice A n c] w fun e w' => e = .returned (.bool true) ∧ Below w.heap.size w w' := by
  have HH := hide hh
  have h600 : decide ((600 : Int) < (n : Int)) = true := by simp; omega
  clear hh
  go_enter Tryd.func5, Tryd.ntmps5
  go_wp2_with fail
  refine (awake12 w (unhide HH)).mono ?_
  rintro e w1 ⟨rfl, hbe⟩
  have HE := hide hbe
  clear hbe
  go_wp2_with fail
  refine (awake12 w1 ((unhide HH).below HE.out)).mono ?_
  rintro e w2 ⟨rfl, hbe2⟩
  have HE2 := hide (HE.out.trans (hbe2.mono HE.out.size))
  clear hbe2
  go_wp2
  go_ret
  exact ⟨rfl, HE2.out⟩
end Go.Proofs.YtenhjnicadjbaaaDoor
