/-
  icehouselaw13.awake: the document's example is true. No condition.
-/
import Derived.Test.YtenhjnicadjbaaaDevCalm
namespace Go.Proofs.Ytenhjnicadjbaaa
open Go Go.RowKit

set_option maxRecDepth 100000 in
set_option maxHeartbeats 2000000 in
theorem awake13 (W : World) : Calls Try.prog 6 #[] W fun e W' => e = .returned (.bool true) ∧ Below W.heap.size W W' := by
  have F0 := fun W => filled_any 0 W
  have F1 := fun W => filled_any 1 W
  have F2 := fun W => filled_any 2 W
  have F3 := fun W => filled_any 3 W
  have HF0 := hide F0
  have HF1 := hide F1
  have HF2 := hide F2
  have HF3 := hide F3
  clear F0 F1 F2 F3
  go_enter Try.func6, Try.ntmps6
  go_wp2_with fail
  refine (new_any _ 3 (by omega) (by omega)).mono ?_
  rintro e w1 ⟨g, rfl, hd, hb⟩
  have HD1 := hide hd
  have HB1 := hide hb
  clear hd hb
  go_wp2_with fail
  refine (HF1.out _).mono ?_
  rintro e w2 ⟨rfl, hbk, hbe⟩
  have HD2 := hide (HD1.out.lift hbe)
  have HB2 := hide (HB1.out.trans (hbe.mono HB1.out.size))
  have HR2 := hide (rows_one (n := 64) (c := 64) hbk rfl (Nat.le_refl _))
  clear hbk hbe HD1 HB1
  go_wp2_with fail
  refine (write_calm _ W.heap.size g (newS 3) (HD2.out.lift ((Below.refl _ _).alloc (Nat.le_refl _) _)) ⟨rfl, rfl⟩ (by decide) 0 [fullL 1] _ 1 1 rfl (by decide) (by decide) (fun s hs => by rw [List.mem_singleton.1 hs]; exact fullL_len _) HR2.out).mono ?_
  rintro e w3 ⟨rfl, hd, hk⟩
  have HD3 := hide hd
  have HB3 := hide ((HB2.out.alloc HB2.out.size _).trans (hk.1.mono (Nat.le_refl _)))
  clear hd hk HR2 HB2 HD2
  go_wp2_with fail
  refine (flush_calm _ W.heap.size g _ HD3.out ⟨rfl, rfl⟩ (by decide)).mono ?_
  rintro e w4 ⟨rfl, hd, hk⟩
  have HD4 := hide hd
  have HB4 := hide (HB3.out.trans hk.1)
  clear hd hk HB3 HD3
  go_wp2_with fail
  refine (HF2.out _).mono ?_
  rintro e w5 ⟨rfl, hbk, hbe⟩
  have HD5 := hide (HD4.out.lift hbe)
  have HB5 := hide (HB4.out.trans (hbe.mono HB4.out.size))
  have HBK5 := hide hbk
  clear hbk hbe HD4
  go_wp2_with fail
  refine (HF3.out _).mono ?_
  rintro e w6 ⟨rfl, hbk, hbe⟩
  have HD6 := hide (HD5.out.lift hbe)
  have HB6 := hide (HB5.out.trans (hbe.mono HB5.out.size))
  have HR6 := hide (rows_two (n1 := 64) (c1 := 64) (n2 := 64) (c2 := 64) (HBK5.out.below hbe HBK5.out.lt) hbk rfl rfl (Nat.le_refl _) (Nat.le_refl _))
  clear hbk hbe HD5 HB5 HBK5 HB4
  go_wp2_with fail
  refine (write_calm _ W.heap.size g _ (HD6.out.lift ((Below.refl _ _).alloc (Nat.le_refl _) _)) ⟨rfl, rfl⟩ (by decide) 0 [fullL 2, fullL 3] _ 2 2 rfl (by decide) (by decide) (fun s hs => by
    rcases List.mem_cons.1 hs with rfl | hs
    · exact fullL_len _
    · rw [List.mem_singleton.1 hs]; exact fullL_len _) HR6.out).mono ?_
  rintro e w7 ⟨rfl, hd, hk⟩
  have HD7 := hide hd
  have HB7 := hide ((HB6.out.alloc HB6.out.size _).trans (hk.1.mono (Nat.le_refl _)))
  clear hd hk HR6 HB6 HD6
  go_wp2_with fail
  have HK := hide (fun W' (hk : DKeep W.heap.size (w7.alloc (.cells #[.bool false, .bool true] 4)) W') => reads_of_blk (cs := bools [false, true]) (hk.2 _ _ _ (Blk.new w7 4 #[.bool false, .bool true]) (by decide) (by decide) (by decide)))
  refine (crash_any _ W.heap.size g _ (HD7.out.lift ((Below.refl _ _).alloc (Nat.le_refl _) _)) [false, true] (-1) 0 _ 2 2 rfl (by decide) HK.out).mono ?_
  rintro e w8 ⟨rfl, hd, hk⟩
  have HD8 := hide hd
  have HB8 := hide ((HB7.out.alloc HB7.out.size _).trans hk.1)
  clear hd hk HK HB7 HD7
  go_wp2_with fail
  refine (read_calm _ W.heap.size g _ HD8.out ⟨rfl, rfl⟩ (by decide) 0 3 (by decide)).mono ?_
  rintro e w9 ⟨A9, c9, rfl, hr, hd, hk⟩
  have HR9 : Hid (RowsBlk w9 A9 [fullL 1, fullL 3, fullL 0]) := hr
  have HB9 := hide (HB8.out.trans hk.1)
  clear hr hd hk HB8 HD8
  go_wp2_with fail
  refine (HF1.out _).mono ?_
  rintro e w10 ⟨rfl, hbk, hbe⟩
  have HR10 := hide (HR9.out.below hbe)
  have HB10 := hide (HB9.out.trans (hbe.mono HB9.out.size))
  have HK1 := hide hbk
  clear hbk hbe HR9 HB9
  go_wp2_with fail
  refine (HF3.out _).mono ?_
  rintro e w11 ⟨rfl, hbk, hbe⟩
  have HR11 := hide (HR10.out.below hbe)
  have HB11 := hide (HB10.out.trans (hbe.mono HB10.out.size))
  have HK1b := hide (HK1.out.below hbe HK1.out.lt)
  have HK3 := hide hbk
  clear hbk hbe HR10 HB10 HK1
  go_wp2_with fail
  refine (HF0.out _).mono ?_
  rintro e w12 ⟨rfl, hbk, hbe⟩
  have HR12 := hide (HR11.out.below (hbe.trans ((Below.refl _ _).alloc hbe.size (.cells #[.slice (some ⟨w9.heap.size, 0, none⟩) 64 64, .slice (some ⟨w10.heap.size, 0, none⟩) 64 64, .slice (some ⟨w11.heap.size, 0, none⟩) 64 64] 32))))
  have HB12 := hide (HB11.out.trans (hbe.mono HB11.out.size))
  have HRR := hide (rows_three (n1 := 64) (c1 := 64) (n2 := 64) (c2 := 64) (n3 := 64) (c3 := 64) (HK1b.out.below hbe HK1b.out.lt) (HK3.out.below hbe HK3.out.lt) hbk rfl rfl rfl (Nat.le_refl _) (Nat.le_refl _) (Nat.le_refl _))
  clear hbk hbe HR11 HB11 HK1b HK3
  go_wp2_with fail
  refine (same_yes [fullL 1, fullL 3, fullL 0] A9 _ 3 3 c9 3 _ _ rfl rfl (by decide) HR12.out.rows HRR.out.rows).mono ?_
  rintro e w13 ⟨rfl, hbe, _⟩
  have HBE := hide ((HB12.out.alloc HB12.out.size _).trans (hbe.mono (Nat.le_trans HB12.out.size (by simp))))
  clear hbe
  go_wp2
  go_ret
  exact ⟨rfl, HBE.out⟩
end Go.Proofs.Ytenhjnicadjbaaa
