/-
  The walk of the document's example. No condition.
-/
import Derived.Test.YtogjdfiimflbaaaJrSame
namespace Go.Proofs.Ytogjdfiimflbaaa
open Go Go.RowKit

theorem build_crash (W : World) : (Instr.build 42 #[(1, .int .i64 (-1))]).run Try.prog W = .ok (.agg #[.slice none 0 0, .int .i64 (-1), .int .i64 0]) W := run_build W _ _ _ (by kernel_rfl)
theorem putsAt_two {W : World} {g : Nat} {u1 u2 : Value} {p1 p2 : PutL} (hb : Blk W g 37 #[.int .i64 (p1.1 : Int), u1, .int .i64 (p2.1 : Int), u2]) (h1 : SecV W (fun _ => True) u1 p1.2) (h2 : SecV W (fun _ => True) u2 p2.2) : PutsAt W (some ⟨g, 0, none⟩) [p1, p2] := fun _ => ⟨g, _, rfl, hb, fun i p hp => by
  match i, hp with
  | 0, hp =>
    injection hp with hp
    subst hp
    exact ⟨u1, rfl, rfl, h1⟩
  | 1, hp =>
    injection hp with hp
    subst hp
    exact ⟨u2, rfl, rfl, h2⟩
  | i + 2, hp => simp at hp⟩
theorem putsAt_one {W : World} {g : Nat} {u1 : Value} {p1 : PutL} (hb : Blk W g 37 #[.int .i64 (p1.1 : Int), u1]) (h1 : SecV W (fun _ => True) u1 p1.2) : PutsAt W (some ⟨g, 0, none⟩) [p1] := fun _ => ⟨g, _, rfl, hb, fun i p hp => by
  match i, hp with
  | 0, hp =>
    injection hp with hp
    subst hp
    exact ⟨u1, rfl, rfl, h1⟩
  | i + 1, hp => simp at hp⟩
theorem sec_filled {W : World} {g : Nat} {b : List UInt8} (h : Blk W g 5 (byts b).toArray) (hb : b.length = 64) : SecV W (fun _ => True) (.slice (some ⟨g, 0, none⟩) 64 64) b :=
  ⟨g, 64, _, by rw [hb], by omega, h, by rw [List.take_of_length_le (by simp [byts])], trivial⟩
theorem rows_pair {W : World} {D : Nat → Prop} {v1 v2 : Value} {b1 b2 : List UInt8} (h1 : SecV W D v1 b1) (h2 : SecV W D v2 b2) : RowsBlk (W.alloc (.cells #[v1, v2] 22)) (some ⟨W.heap.size, 0, none⟩) [b1, b2] := by
  obtain ⟨A, c, e, hr⟩ := rows_of_own (World.ownsRow_lit (base := 0) (e := 22) (size := 1) W #[v1, v2] 2 (Nat.zero_le _) (by decide) rfl) (((SecVs.nil.snoc h1).snoc h2).below ((Below.refl W.heap.size W).alloc (Nat.le_refl _) (.cells #[v1, v2] 22)))
  injection e with e1 e2 e3
  rw [e1]
  exact hr
set_option maxRecDepth 100000 in
set_option maxHeartbeats 4000000 in
theorem awake_any (X : World) :
    Calls Try.prog 4 #[] X fun e W' => e = .returned (.bool true) ∧ Below X.heap.size X W' := by
  have HN := hide (cnew_any X 30 (by omega) (by omega))
  rw [show ((30 : Nat) : Int) = 30 from rfl] at HN
  go_enter Try.func4, Try.ntmps4
  go_wp2_with fail
  refine (unhide HN).mono ?_
  rintro e w1 ⟨g, rfl, hd1, hb1⟩
  have hB1 : X.heap.size ≤ w1.heap.size := hb1.size
  have HFM := hide (format_any (n := 10) hd1 hB1 (by omega) (by omega) (by rw [List.length_replicate]; omega))
  rw [show ((10 : Nat) : Int) = 10 from rfl] at HFM
  have HBX1 := hide hb1
  clear hd1 hb1 HN
  go_wp2_with fail
  refine (unhide HFM).mono ?_
  rintro e w2 ⟨rfl, hd2, hk2⟩
  have hB2 : X.heap.size ≤ w2.heap.size := Nat.le_trans hB1 hk2.1.size
  have HBX2 : Hid (Below X.heap.size X w2) := HBX1.out.trans hk2.1
  have HOP := hide (open_any hd2 hB2 (by omega) (open_fresh 10 30 (by omega) (by omega) (by omega)))
  rw [show ((10 : Nat) : Int) = 10 from rfl] at HOP
  clear hd2 hk2 HFM HBX1 hB1
  go_wp2_with fail
  refine (unhide HOP).mono ?_
  rintro e w3 ⟨j, rfl, hj3, hd3, hk3⟩
  have HJ3 : Hid (JAt w3 X.heap.size w3.heap.size j g (freshJ 10)) := hj3
  have HD3 : Hid (DevC w3 X.heap.size g 8 awkN 0) := hd3
  have hB3 : X.heap.size ≤ w3.heap.size := Nat.le_trans hB2 hk3.1.size
  have HBX3 : Hid (Below X.heap.size X w3) := HBX2.out.trans hk3.1
  have HF1 := hide (filled_any 1 w3)
  rw [show (((1 : UInt8).toNat : Nat) : Int) = 1 from rfl] at HF1
  clear hj3 hd3 hk3 HOP HBX2 hB2
  go_wp2_with fail
  refine (unhide HF1).mono ?_
  rintro e w4 ⟨rfl, hf4, hb4⟩
  have HF4 := hide (sec_filled hf4 (List.length_replicate))
  have HB4 := hide hb4
  have HF2 := hide (filled_any 2 w4)
  rw [show (((2 : UInt8).toNat : Nat) : Int) = 2 from rfl] at HF2
  have hbl := fun W' => build_put W' 20 w3.heap.size 64 64
  clear hf4 hb4 HF1
  go_wp2_with fail
  refine (unhide HF2).mono ?_
  rintro e w5 ⟨rfl, hf5, hb5⟩
  have HF5 := hide (sec_filled hf5 (List.length_replicate))
  have HB5 : Hid (Below w3.heap.size w3 w5) := HB4.out.trans (hb5.mono HB4.out.size)
  have HF45 := hide (HF4.out.below hb5)
  have hbl2 := fun W' => build_put W' 21 w4.heap.size 64 64
  clear hf5 hb5 HF2 HB4 HF4
  have HAL : Hid (Below w5.heap.size w5 (w5.alloc (.cells #[.int .i64 20, .slice (some ⟨w3.heap.size, 0, none⟩) 64 64, .int .i64 21, .slice (some ⟨w4.heap.size, 0, none⟩) 64 64] 37))) := (Below.refl _ _).alloc (Nat.le_refl _) _
  have HPA : Hid (PutsAt (w5.alloc (.cells #[.int .i64 20, .slice (some ⟨w3.heap.size, 0, none⟩) 64 64, .int .i64 21, .slice (some ⟨w4.heap.size, 0, none⟩) 64 64] 37)) (some ⟨w5.heap.size, 0, none⟩) awkP) :=
    putsAt_two (Blk.new _ _ _) (HF45.out.below HAL.out) (HF5.out.below HAL.out)
  obtain ⟨w6, hw6⟩ : ∃ w6, w5.alloc (.cells #[.int .i64 20, .slice (some ⟨w3.heap.size, 0, none⟩) 64 64, .int .i64 21, .slice (some ⟨w4.heap.size, 0, none⟩) 64 64] 37) = w6 := ⟨_, rfl⟩
  rw [hw6] at HAL HPA
  have HB6 : Hid (Below w3.heap.size w3 w6) := HB5.out.trans (HAL.out.mono HB5.out.size)
  have hB6 : X.heap.size ≤ w6.heap.size := Nat.le_trans hB3 HB6.out.size
  have hs35 : w3.heap.size ≤ w5.heap.size := HB5.out.size
  have HCM := hide (commit_any (k := 2) (HJ3.out.lift HB6.out) (HD3.out.lift HB6.out) hB6 (by omega) HPA.out (fun ad e => by injection e with e; subst e; exact hs35) awk_cmt)
  rw [show awkP.length = 2 from rfl] at HCM
  clear HF45 HF5 HAL HPA HB5
  go_wp2_with fail
  refine (unhide HCM).mono ?_
  rintro e w7 ⟨rfl, hj7, hd7, hk7⟩
  have HBX7 : Hid (Below X.heap.size X w7) := (HBX3.out.trans (HB6.out.mono hB3)).trans hk7.1
  have hB7 : X.heap.size ≤ w7.heap.size := Nat.le_trans hB6 hk7.1.size
  have HCR := hide (hd7.crash (-1) 0 0 none)
  have hbc := fun W' => build_crash W'
  clear hj7 hd7 hk7 HCM hbl hbl2 hw6 HB6 HBX3 HJ3 HD3
  go_wp2_with fail
  refine (unhide HCR).mono ?_
  rintro e w8 ⟨rfl, hd8, hk8⟩
  have HBX8 : Hid (Below X.heap.size X w8) := HBX7.out.trans hk8.1
  have hB8 : X.heap.size ≤ w8.heap.size := Nat.le_trans hB7 hk8.1.size
  have HO2 := hide (open_any hd8 hB8 (by omega) awk_open)
  rw [show ((10 : Nat) : Int) = 10 from rfl, show ((List.length [awkP] : Nat) : Int) = 1 from rfl] at HO2
  clear hd8 hk8 HCR hbc HBX7 hB7
  go_wp2_with fail
  refine (unhide HO2).mono ?_
  rintro e w9 ⟨k, rfl, _, hd9, hk9⟩
  have HBX9 : Hid (Below X.heap.size X w9) := HBX8.out.trans hk9.1
  have hl9 : (openN 10 1 1 2 6 [awkP] (doneN (freshJ 10) awkN awkP)).length = 30 := by
    show (settleN _ _).length = 30
    rw [settleN_len]
    exact awk_len
  have HRD := hide (hd9.read (by show 0 + 2 + 4 < _; omega) 20 2 (by rw [hl9]; omega))
  rw [awk_home, show ((20 : Nat) : Int) = 20 from rfl, show ((2 : Nat) : Int) = 2 from rfl] at HRD
  clear hd9 hk9 HO2 HBX8 hB8
  go_wp2_with fail
  refine (unhide HRD).mono ?_
  rintro e w10 ⟨A, kr, rfl, hr10, _, hk10⟩
  obtain ⟨ga, cur, eA, _⟩ := hr10 (by decide)
  subst eA
  have HR10 := hide hr10
  have HBX10 : Hid (Below X.heap.size X w10) := HBX9.out.trans hk10.1
  have HF1 := hide (filled_any 1 w10)
  rw [show (((1 : UInt8).toNat : Nat) : Int) = 1 from rfl] at HF1
  clear hr10 hk10 HRD hl9 HBX9
  go_wp2_with fail
  refine (unhide HF1).mono ?_
  rintro e w11 ⟨rfl, hf11, hb11⟩
  have HF11 := hide (sec_filled hf11 (List.length_replicate))
  have HB11 := hide hb11
  have HF2 := hide (filled_any 2 w11)
  rw [show (((2 : UInt8).toNat : Nat) : Int) = 2 from rfl] at HF2
  clear hf11 hb11 HF1
  go_wp2_with fail
  refine (unhide HF2).mono ?_
  rintro e w12 ⟨rfl, hf12, hb12⟩
  have HRT := hide (rows_pair (HF11.out.below hb12) (sec_filled hf12 (List.length_replicate)))
  have HB12 : Hid (Below w10.heap.size w10 w12) := HB11.out.trans (hb12.mono HB11.out.size)
  have HB13 : Hid (Below w10.heap.size w10 (w12.alloc (.cells #[.slice (some ⟨w10.heap.size, 0, none⟩) 64 64, .slice (some ⟨w11.heap.size, 0, none⟩) 64 64] 22))) := HB12.out.alloc HB12.out.size _
  clear hf12 hb12 HF2 HB11 HF11 HB12
  obtain ⟨w13, hw13⟩ : ∃ w13, w12.alloc (.cells #[.slice (some ⟨w10.heap.size, 0, none⟩) 64 64, .slice (some ⟨w11.heap.size, 0, none⟩) 64 64] 22) = w13 := ⟨_, rfl⟩
  rw [hw13] at HRT HB13
  have HSM := hide (same_any (n := 2) (c1 := kr) (c2 := 2) (HR10.out.below HB13.out) HRT.out rfl (by decide))
  go_wp2_with fail
  refine (unhide HSM).mono ?_
  rintro e w14 ⟨rfl, hb14⟩
  have HB14 : Hid (Below X.heap.size X w14) := (HBX10.out.trans (HB13.out.mono HBX10.out.size)).trans (hb14.mono (Nat.le_trans HBX10.out.size HB13.out.size))
  clear hb14 HSM
  go_wp2
  go_ret
  exact ⟨rfl, HB14.out⟩
end Go.Proofs.Ytogjdfiimflbaaa
