/-
  icehouselaw15.filled: a sector of one octet. No condition.
-/
import Derived.Test.YtogjdfiimflbaaaBase
namespace Go.Proofs.Ytogjdfiimflbaaa
open Go Go.RowKit

def fillL (b : UInt8) (j : Nat) : List UInt8 := List.replicate j b ++ List.replicate (64 - j) 0
theorem fill_set (b : UInt8) {j : Nat} (h : j < 64) : (fillL b j).set j b = fillL b (j + 1) := by
  unfold fillL
  rw [List.set_append_right _ _ (by simp), List.length_replicate, Nat.sub_self, show 64 - j = (64 - (j + 1)) + 1 by omega, List.replicate_succ, List.set_cons_zero, List.replicate_succ', List.append_assoc]
  rfl

set_option maxRecDepth 100000 in
set_option maxHeartbeats 400000 in
theorem filled_any (b : UInt8) (w : World) : Calls Try.prog 9 #[.int .u8 (b.toNat : Int)] w fun e w' =>
    e = .returned (.slice (some ⟨w.heap.size, 0, none⟩) 64 64) ∧ Blk w' w.heap.size 5 (byts (List.replicate 64 b)).toArray ∧ Below w.heap.size w w' := by
  have hmk : ∀ W', (Instr.makeSlice 22 (.int .i64 64) (.int .i64 64)).run Try.prog W' = .ok (.slice (some ⟨W'.heap.size, 0, none⟩) 64 64) (W'.alloc (.cells (madeCells #[.int .u8 0] 64) 5)) := make8 64 (by omega)
  have HS := hide (show madeCells #[.int .u8 0] 64 = (byts (fillL b 0)).toArray from zeros_cells 64)
  have HE := hide (show fillL b 64 = List.replicate 64 b by simp [fillL])
  have HST := hide (fun (j : Nat) (h : j < 64) => fill_set b h)
  generalize List.replicate 64 b = fb at *
  go_enter Try.func9, Try.ntmps9
  go_wp2
  go_loopw [4] (fun i wr => ∃ j : Nat, j ≤ 64 ∧ i = .int .i64 j ∧ Blk wr w.heap.size 5 (byts (fillL b j)).toArray ∧ Below w.heap.size w wr) (fun i _ => 64 - (intOf i).toNat)
  case atStart => exact ⟨0, Nat.zero_le _, rfl, by rw [← HS.out]; exact Blk.new _ _ _, Below.alloc (Below.refl _ _) (Nat.le_refl _) _⟩
  case round =>
    obtain ⟨j, hj, rfl, hblk, hbe⟩ := hrel
    have HBK := hide hblk
    have HBE := hide hbe
    by_cases hlt : j < 64
    · have r2 := hblk.frozen j
      have hsz : (byts (fillL b j)).toArray.size = 64 := by simp [byts, fillL]; omega
      obtain ⟨ov, hov⟩ : ∃ ov, (byts (fillL b j)).toArray[j]? = some ov := ⟨_, Array.getElem?_eq_getElem (by omega)⟩
      have r3 := (hblk.cell j).trans hov
      clear hblk hbe hsz hov
      have i1 : (0 : Int) ≤ (j : Int) := by omega
      have i2 : (j : Int) < 64 := by omega
      go_wp2
      go_roundw
      case rel =>
        refine ⟨j + 1, by omega, by go_num, ?_, HBE.out.setCell (p := ⟨w.heap.size, j, none⟩) (Nat.le_refl _) _⟩
        have := HBK.out.set_ j (.int .u8 (b.toNat : Int))
        rw [byts_sets, HST.out j hlt] at this
        exact this
      case measure => simp [intOf]; omega
    · obtain rfl : j = 64 := by omega
      rw [HE.out] at HBK
      clear hblk hbe
      go_wp2
      go_ret
      exact ⟨rfl, HBK.out, HBE.out⟩
end Go.Proofs.Ytogjdfiimflbaaa
