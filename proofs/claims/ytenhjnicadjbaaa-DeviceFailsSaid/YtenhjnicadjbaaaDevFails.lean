/-
  icehouselaw13.DeviceFails: for every input the call returns true and writes nothing that was there. No condition.
-/
import Derived.Test.YtenhjnicadjbaaaDevKeeps
namespace Go.Proofs.Ytenhjnicadjbaaa
open Go Go.RowKit

def sF1 : DS := writeS (tick (newS 2)) 0 [fullL 1]
def sF2 : DS := { sF1 with n := 0, bad := [0, 1, 3] }
def sF3 : DS := stepN sF2
def sF4 : DS := stepN sF3
def sF5 : DS := stepN sF4
def sF6 : DS := stepN sF5
def stF (k : Nat) : Nat → DS
  | 0 => { sF6 with left := k }
  | i + 1 => writeS (stepN (stF k i)) 1 [fullL (UInt8.ofNat i)]
theorem stF_facts : ∀ k < 5, ∀ i < 5, i ≤ k → (stF k i).n < 1048576 ∧ -1 ≤ (stF k i).left ∧ (stF k i).q.length = 1 + i ∧ (stF k i).kept.length = 2 ∧ codeN (stF k i) = if i < k then 0 else 32 := by decide
theorem stF_end : ∀ k < 5, (crashS (stF k k) [] (-1) 0).now = [fullL 0, fullL 0] ∧ (crashS (stF k k) [] (-1) 0).kept.length = 2 := by decide
theorem stF_stay : ∀ k < 5, (stF k k).left = 0 := by decide
theorem ints_reads {W : World} {g : Nat} {l : List Int} (h : Blk W g 3 (ints l).toArray) : Reads W W.heap.size 1 (some ⟨g, 0, none⟩) l.length (ints l) := by
  have := reads_of_blk h
  have e : (ints l).length = l.length := by simp [ints]
  rw [e] at this
  exact this

set_option maxRecDepth 100000 in
set_option maxHeartbeats 4000000 in
theorem devFails_any (n : Int) (x : UInt8) (W : World) :
    Calls Try.prog 5 #[.int .i64 n, .int .u8 (x.toNat : Int)] W fun e W' => e = .returned (.bool true) ∧ Below W.heap.size W W' := by
  have HAW := hide (awake13 W)
  have F0 := fun W => filled_at 0 0 rfl W
  have F1 := fun W => filled_at 1 1 rfl W
  have FX := fun W => filled_at x _ rfl W
  have HF0 := hide F0
  have HF1 := hide F1
  have HFX := hide FX
  obtain ⟨k, hk5, ek⟩ := mod_pos n 5 (by omega) (by omega)
  change (wrap64 (n.tmod 5 + 5)).tmod 5 = (k : Int) at ek
  have HX255 := hide (UInt8.toNat_lt x)
  clear F0 F1 FX
  generalize (x.toNat : Int) = xi at *
  go_enter Try.func5, Try.ntmps5
  go_wp2_with fail
  refine (unhide HAW).mono ?_
  rintro e w1 ⟨rfl, hbe⟩
  have HB1 := hide hbe
  clear hbe HAW
  go_wp2_with fail
  refine (new_any _ 2 (by omega) (by omega)).mono ?_
  rintro e w2 ⟨g, rfl, hd, hb⟩
  have HB2 := hide hb
  have HD2 := hide hd
  have HWB := hide HB1.out.size
  clear hd hb
  generalize hB : w1.heap.size = B at *
  have HBQ := hide hB
  clear hB
  -- Write(0, filled(1))
  go_wp2_with fail
  refine (HF1.out _).mono ?_
  rintro e w3 ⟨rfl, hbk, hbe⟩
  have HR3 := hide (rows_one (n := 64) (c := 64) hbk rfl (Nat.le_refl _))
  have HD3 := hide (HD2.out.lift (hbe.trans ((Below.refl _ _).alloc hbe.size (.cells #[.slice (some ⟨w2.heap.size, 0, none⟩) 64 64] 32))))
  have HB3 : Hid (Below B w1 (w3.alloc (.cells #[.slice (some ⟨w2.heap.size, 0, none⟩) 64 64] 32))) := (HB2.out.trans (hbe.mono (by have := HB2.out.size; have := HBQ.out; omega))).alloc (by have := HB2.out.size; have := hbe.size; have := HBQ.out; omega) _
  clear hbk hbe HD2 HB2
  go_wp2_with fail
  refine (write_calm _ B g (newS 2) HD3.out ⟨rfl, rfl⟩ (by decide) 0 [fullL 1] _ 1 1 rfl (by decide) (by decide) (fun s hs => by rw [List.mem_singleton.1 hs]; exact fullL_len _) HR3.out).mono ?_
  rintro e w4 ⟨rfl, hd, hk⟩
  have HD4 : Hid (DevAt w4 B g sF1) := hd
  have HB4 := hide (HB3.out.trans hk.1)
  clear hd hk HD3 HB3 HR3
  -- Fail(0, 1, 3)
  go_wp2_with fail
  have HI5 := hide (ints_reads (l := [0, 1, 3]) (Blk.new w4 3 #[.int .i64 0, .int .i64 1, .int .i64 3]))
  refine (fail_any _ B g sF1 (HD4.out.lift ((Below.refl _ _).alloc (Nat.le_refl _) _)) [0, 1, 3] _ 3 3 rfl (by decide) HI5.out).mono ?_
  rintro e w5 ⟨rfl, hd, hk⟩
  have HD5 : Hid (DevAt w5 B g sF2) := hd
  have HB5 : Hid (Below B w1 w5) := (HB4.out.alloc (by have := HB4.out.size; have := HBQ.out; omega) _).trans hk.1
  clear hd hk HD4 HB4 HI5
  -- Write(0, filled(x))
  go_wp2_with fail
  refine (HFX.out _).mono ?_
  rintro e w6 ⟨rfl, hbk, hbe⟩
  have HR6 := hide (rows_one (n := 64) (c := 64) hbk rfl (Nat.le_refl _))
  have HD6 := hide (HD5.out.lift (hbe.trans ((Below.refl _ _).alloc hbe.size (.cells #[.slice (some ⟨w5.heap.size, 0, none⟩) 64 64] 32))))
  have HB6 : Hid (Below B w1 (w6.alloc (.cells #[.slice (some ⟨w5.heap.size, 0, none⟩) 64 64] 32))) := (HB5.out.trans (hbe.mono (by have := HB5.out.size; have := HBQ.out; omega))).alloc (by have := HB5.out.size; have := hbe.size; have := HBQ.out; omega) _
  clear hbk hbe HD5 HB5
  go_wp2_with fail
  have HC6 := hide (write_any _ B g sF2 HD6.out (by decide) (by decide) 0 [fullL x] _ 1 1 rfl (show 1 + 1 ≤ 1048576 by decide) (fun s hs => by rw [List.mem_singleton.1 hs]; exact fullL_len _) HR6.out)
  rw [show writeCode sF2 0 [fullL x] = 31 from rfl, show writeTo sF2 0 [fullL x] = sF3 from rfl] at HC6
  refine (unhide HC6).mono ?_
  rintro e w7 ⟨rfl, hd, hk⟩
  have HD7 := hide hd
  have HB7 := hide (HB6.out.trans hk.1)
  clear hd hk HD6 HB6 HR6 HC6
  -- Flush
  go_wp2_with fail
  have HC7 := hide (flush_any _ B g sF3 HD7.out (by decide) (by decide))
  rw [show codeN sF3 = 31 from rfl, show flushTo sF3 = sF4 from rfl] at HC7
  refine (unhide HC7).mono ?_
  rintro e w8 ⟨rfl, hd, hk⟩
  have HD8 := hide hd
  have HB8 := hide (HB7.out.trans hk.1)
  clear hd hk HD7 HB7 HC7
  -- Write(9)
  go_wp2_with fail
  have HC8 := hide (write_any w8 B g sF4 HD8.out (by decide) (by decide) 9 [] none 0 0 rfl (by decide) (fun s hs => absurd hs List.not_mem_nil) (fun h => absurd h (by simp)))
  rw [show writeCode sF4 9 [] = 2 from rfl, show writeTo sF4 9 [] = sF4 from rfl] at HC8
  refine (unhide HC8).mono ?_
  rintro e w9 ⟨rfl, hd, hk⟩
  have HD9 := hide hd
  have HB9 := hide (HB8.out.trans hk.1)
  clear hd hk HD8 HB8 HC8
  -- Waiting
  go_wp2_with fail
  have HC9 := hide (waiting_any w9 B g sF4 HD9.out)
  rw [show (sF4.q.length : Int) = 1 from rfl] at HC9
  refine (unhide HC9).mono ?_
  rintro e w9' ⟨rfl, rfl⟩
  clear HC9
  -- Read(0, 1)
  go_wp2_with fail
  have HC10 := hide (read_any w9 B g sF4 HD9.out (by decide) (by decide) 0 1 (by decide))
  rw [show readCode sF4 0 1 = 0 from rfl, show readS sF4 0 1 = sF5 from rfl, show readL sF4 0 1 = [fullL 1] from rfl] at HC10
  refine (unhide HC10).mono ?_
  rintro e w10 ⟨A10, c10, rfl, hr, hd, hk⟩
  have HD10 := hide hd
  have HB10 := hide (HB9.out.trans hk.1)
  have HR10 := hide hr
  clear hd hk hr HD9 HB9 HC10
  -- Read(0, 1)
  go_wp2_with fail
  have HC11 := hide (read_any w10 B g sF5 HD10.out (by decide) (by decide) 0 1 (by decide))
  rw [show readCode sF5 0 1 = 31 from rfl, show readS sF5 0 1 = sF6 from rfl, show readL sF5 0 1 = [] from rfl] at HC11
  refine (unhide HC11).mono ?_
  rintro e w11 ⟨A11, c11, rfl, hr, hd, hk⟩
  have HD11 := hide hd
  have HB11 := hide (HB10.out.trans hk.1)
  have HR11 := hide (HR10.out.keep hk)
  clear hd hk hr HD10 HB10 HC11 HR10
  -- Same(l, [filled(1)])
  go_wp2_with fail
  refine (HF1.out _).mono ?_
  rintro e w12 ⟨rfl, hbk, hbe⟩
  have HRR := hide (rows_one (n := 64) (c := 64) hbk rfl (Nat.le_refl _))
  have HB12x := hide (hbe.trans ((Below.refl _ _).alloc hbe.size (.cells #[.slice (some ⟨w11.heap.size, 0, none⟩) 64 64] 32)))
  clear hbk hbe
  go_wp2_with fail
  refine (same_yes [fullL 1] A10 _ 1 1 c10 1 _ _ rfl rfl (by decide) (HR11.out.below HB12x.out).rows HRR.out.rows).mono ?_
  rintro e w13 ⟨rfl, hbe, _⟩
  have HB11x := hide (HB12x.out.trans (hbe.mono HB12x.out.size))
  have HD13 := hide (HD11.out.lift HB11x.out)
  have HB13 : Hid (Below B w1 w13) := HB11.out.trans (HB11x.out.mono (by have := HB11.out.size; have := HBQ.out; omega))
  clear hbe HR11 HRR HB12x HB11x HD11 HB11
  -- Limit(k)
  go_wp2_with fail
  refine (limit_any w13 B g sF6 HD13.out k (by omega)).mono ?_
  rintro e w14 ⟨rfl, hd, hk⟩
  have HD14 : Hid (DevAt w14 B g (stF k 0)) := hd
  have HB14 := hide (HB13.out.trans hk.1)
  clear hd hk HD13 HB13
  have HSF := hide (stF_facts k hk5)
  have HSE := hide (stF_end k hk5)
  have HSS := hide (stF_stay k hk5)
  go_wp2_with fail
  go_loopw [12] (fun v wr => ∃ i : Nat, i ≤ k ∧ v = .int .i64 i ∧ DevAt wr B g (stF k i) ∧ Below B w1 wr) (fun v _ => k - (intOf v).toNat)
  case atStart => exact ⟨0, Nat.zero_le _, rfl, HD14.out, HB14.out⟩
  case round =>
    obtain ⟨i, hi, rfl, hd, hbe⟩ := hrel
    have HD := hide hd
    have HBE := hide hbe
    clear hd hbe
    by_cases hlt : i < k
    · obtain ⟨hn, hl, hq, hkp, hc⟩ := HSF.out i (by omega) hi
      rw [if_pos hlt] at hc
      have HN := hide hn
      have HL := hide hl
      have HQ := hide hq
      have HCC := hide (show writeCode (stF k i) 1 [fullL (UInt8.ofNat i)] = 0 by
        have ht : thereB (stF k i) 1 ([fullL (UInt8.ofNat i)].length) = true := there_yes (a := 1) (n := 1) (by omega)
        unfold writeCode
        rw [if_pos ht]
        exact hc)
      have HWT := hide (show writeTo (stF k i) 1 [fullL (UInt8.ofNat i)] = stF k (i + 1) by
        have ht : thereB (stF k i) 1 ([fullL (UInt8.ofNat i)].length) = true := there_yes (a := 1) (n := 1) (by omega)
        unfold writeTo
        rw [if_pos ht, if_pos hc]
        rfl)
      have HF := hide (filled_at (UInt8.ofNat i) (i : Int) (by rw [UInt8.toNat_ofNat']; omega) wr)
      clear hn hl hq hkp hc
      generalize stF k i = S at *
      generalize UInt8.ofNat i = b at *
      have i1 : (0 : Int) ≤ (i : Int) := by omega
      have i2 : (i : Int) < (k : Int) := by omega
      have i3 : (i : Int) < 5 := by omega
      go_wp2_with fail
      refine (unhide HF).mono ?_
      rintro e w3 ⟨rfl, hbk, hb3⟩
      have HD3 := hide (HD.out.lift (hb3.trans ((Below.refl _ _).alloc hb3.size (.cells #[.slice (some ⟨wr.heap.size, 0, none⟩) 64 64] 32))))
      have HR3 := hide (rows_one (n := 64) (c := 64) hbk rfl (Nat.le_refl _))
      have HBE3 : Hid (Below B w1 (w3.alloc (.cells #[.slice (some ⟨wr.heap.size, 0, none⟩) 64 64] 32))) := (HBE.out.trans (hb3.mono (by have := HBE.out.size; have := HBQ.out; omega))).alloc (by have := HBE.out.size; have := hb3.size; have := HBQ.out; omega) _
      clear hbk hb3 HF HD HBE
      go_wp2_with fail
      have HWR := hide (write_any _ B g S HD3.out HN.out HL.out 1 [fullL b] _ 1 1 rfl (by have := HQ.out; simp; omega) (fun s hs => by rw [List.mem_singleton.1 hs]; exact fullL_len _) HR3.out)
      rw [HCC.out, HWT.out] at HWR
      refine (unhide HWR).mono ?_
      rintro e w4 ⟨rfl, hd, hk⟩
      have HD4 := hide hd
      have HBE4 := hide (HBE3.out.trans hk.1)
      clear hd hk HD3 HR3 HBE3 HWR
      go_wp2
      go_roundw
      case rel => exact ⟨i + 1, by omega, by go_num, HD4.out, HBE4.out⟩
      case measure => simp [intOf]; omega
    · obtain rfl : i = k := by omega
      obtain ⟨hn, hl, hq, hkp, hc⟩ := HSF.out i (by omega) hi
      rw [if_neg (by omega)] at hc
      have HN := hide hn
      have HL := hide hl
      have HQ := hide hq
      have HKP := hide hkp
      have HCN := hide hc
      have HST := hide (show stepN (stF i i) = stF i i by unfold stepN; rw [if_pos HSS.out])
      have HT1 := hide (show thereB (stF i i) 0 1 = true from there_yes (a := 0) (n := 1) (by omega))
      have HT2 := hide (show thereB (stF i i) 1 ([fullL x].length) = true from there_yes (a := 1) (n := 1) (by omega))
      have HRD := hide (show readCode (stF i i) 0 1 = 32 ∧ readS (stF i i) 0 1 = stF i i by
        unfold readCode readS
        rw [if_pos HT1.out, if_pos HT1.out, HST.out]
        exact ⟨HCN.out, rfl⟩)
      have HWR := hide (show writeCode (stF i i) 1 [fullL x] = 32 ∧ writeTo (stF i i) 1 [fullL x] = stF i i by
        unfold writeCode writeTo
        rw [if_pos HT2.out, if_pos HT2.out, if_neg (by rw [HCN.out]; decide), HST.out]
        exact ⟨HCN.out, rfl⟩)
      have HFL := hide (show flushTo (stF i i) = stF i i by
        unfold flushTo
        rw [if_neg (by rw [HCN.out]; decide), HST.out])
      clear hn hl hq hkp hc HSF HSS
      generalize stF i i = S at *
      go_wp2_with fail
      have HC1 := hide (read_any wr B g S HD.out HN.out HL.out 0 1 (by decide))
      rw [HRD.out.1, HRD.out.2] at HC1
      refine (unhide HC1).mono ?_
      rintro e w15 ⟨A15, c15, rfl, hr, hd, hk⟩
      have HD15 := hide hd
      have HB15 := hide (HBE.out.trans hk.1)
      clear hd hk hr HD HBE HC1
      go_wp2_with fail
      refine (HFX.out _).mono ?_
      rintro e w16 ⟨rfl, hbk, hbe⟩
      have HR16 := hide (rows_one (n := 64) (c := 64) hbk rfl (Nat.le_refl _))
      have HD16 := hide (HD15.out.lift (hbe.trans ((Below.refl _ _).alloc hbe.size (.cells #[.slice (some ⟨w15.heap.size, 0, none⟩) 64 64] 32))))
      have HB16 : Hid (Below B w1 (w16.alloc (.cells #[.slice (some ⟨w15.heap.size, 0, none⟩) 64 64] 32))) := (HB15.out.trans (hbe.mono (by have := HB15.out.size; have := HBQ.out; omega))).alloc (by have := HB15.out.size; have := hbe.size; have := HBQ.out; omega) _
      clear hbk hbe HD15 HB15
      go_wp2_with fail
      have HC2 := hide (write_any _ B g S HD16.out HN.out HL.out 1 [fullL x] _ 1 1 rfl (by have := HQ.out; simp; omega) (fun s hs => by rw [List.mem_singleton.1 hs]; exact fullL_len _) HR16.out)
      rw [HWR.out.1, HWR.out.2] at HC2
      refine (unhide HC2).mono ?_
      rintro e w17 ⟨rfl, hd, hk⟩
      have HD17 := hide hd
      have HB17 := hide (HB16.out.trans hk.1)
      clear hd hk HD16 HB16 HR16 HC2
      go_wp2_with fail
      have HC3 := hide (flush_any _ B g S HD17.out HN.out HL.out)
      rw [HCN.out, HFL.out] at HC3
      refine (unhide HC3).mono ?_
      rintro e w18 ⟨rfl, hd, hk⟩
      have HD18 := hide hd
      have HB18 := hide (HB17.out.trans hk.1)
      clear hd hk HD17 HB17 HC3
      go_wp2_with fail
      have HC4 := hide (waiting_any w18 B g S HD18.out)
      rw [HQ.out] at HC4
      refine (unhide HC4).mono ?_
      rintro e w18' ⟨rfl, rfl⟩
      clear HC4
      have hne : ((((1 + i : Nat) : Int)) != 1 + (i : Int)) = false := by simp
      go_wp2_with fail
      refine (crash_any w18 B g S HD18.out [] (-1) 0 none 0 0 rfl (by decide) (fun _ _ => Reads.none_)).mono ?_
      rintro e w19 ⟨rfl, hd, hk⟩
      have HD19 := hide hd
      have HB19 := hide (HB18.out.trans hk.1)
      clear hd hk HD18 HB18 hne
      have HCM : Hid (Calm (crashS S [] (-1) 0) ∧ (crashS S [] (-1) 0).n = 0) := (show _ from ⟨⟨rfl, rfl⟩, rfl⟩)
      generalize crashS S [] (-1) 0 = SC at *
      go_wp2_with fail
      refine (read_calm w19 B g SC HD19.out HCM.out.1 (by have := HCM.out.2; omega) 0 2 (by rw [HSE.out.2]; omega)).mono ?_
      rintro e w20 ⟨A20, c20, rfl, hr, hd, hk⟩
      have HB20 := hide (HB19.out.trans hk.1)
      have HR20 : Hid (RowsBlk w20 A20 [fullL 0, fullL 0]) := by
        rw [HSE.out.1] at hr
        exact hr
      clear hr hd hk HD19 HB19
      go_wp2_with fail
      refine (HF0.out _).mono ?_
      rintro e w21 ⟨rfl, hbk, hbe⟩
      have HR21 := hide (HR20.out.below hbe)
      have HB21 := hide (HB20.out.trans (hbe.mono (by have := HB20.out.size; have := HBQ.out; omega)))
      have HK1 := hide hbk
      clear hbk hbe HR20 HB20
      go_wp2_with fail
      refine (HF0.out _).mono ?_
      rintro e w22 ⟨rfl, hbk, hbe⟩
      have HRR := hide (rows_two (n1 := 64) (c1 := 64) (n2 := 64) (c2 := 64) (HK1.out.below hbe HK1.out.lt) hbk rfl rfl (Nat.le_refl _) (Nat.le_refl _))
      have HX22 := hide (hbe.trans ((Below.refl _ _).alloc hbe.size (.cells #[.slice (some ⟨w20.heap.size, 0, none⟩) 64 64, .slice (some ⟨w21.heap.size, 0, none⟩) 64 64] 32)))
      have HR22 := hide (HR21.out.below HX22.out)
      clear hbk hbe HK1 HR21
      go_wp2_with fail
      refine (same_yes [fullL 0, fullL 0] A20 _ 2 2 c20 2 _ _ rfl rfl (by decide) HR22.out.rows HRR.out.rows).mono ?_
      rintro e w23 ⟨rfl, hbe, _⟩
      have HBF : Hid (Below W.heap.size W w23) := HB1.out.trans ((HB21.out.trans ((HX22.out.trans (hbe.mono HX22.out.size)).mono (by have := HB21.out.size; have := HBQ.out; omega))).mono HWB.out)
      clear hbe
      go_wp2
      go_ret
      exact ⟨rfl, HBF.out⟩
end Go.Proofs.Ytenhjnicadjbaaa
