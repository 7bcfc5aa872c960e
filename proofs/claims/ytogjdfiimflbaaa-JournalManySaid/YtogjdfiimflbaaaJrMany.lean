/-
  The walk of JournalMany. Conditions: none; the octets read so.
-/
import Derived.Test.YtogjdfiimflbaaaJrAwake
namespace Go.Proofs.Ytogjdfiimflbaaa
open Go Go.RowKit

theorem mod_pos (x : Int) (m : Nat) (hm : 0 < m) (hm2 : m ≤ 1000) : ∃ k : Nat, k < m ∧ (wrap64 (x.tmod m + m)).tmod m = (k : Int) := by
  have a := Int.tmod_lt_of_pos x (b := (m : Int)) (by omega)
  have b := Int.lt_tmod_of_pos x (b := (m : Int)) (by omega)
  have e1 : wrap64 (x.tmod m + m) = x.tmod m + m := IntWalk.wrap64_in _ ⟨by omega, by omega⟩
  rw [e1]
  have c := Int.tmod_lt_of_pos (x.tmod m + m) (b := (m : Int)) (by omega)
  have d := Int.tmod_nonneg (m : Int) (a := x.tmod m + m) (by omega)
  exact ⟨((x.tmod m + m).tmod m).toNat, by omega, by omega⟩
def wantC (xs : List UInt8) (i : Nat) : Array Value := #[.int .u8 ((wantV xs i 0).toNat : Int), .int .u8 ((wantV xs i 1).toNat : Int), .int .u8 ((wantV xs i 2).toNat : Int), .int .u8 ((wantV xs i 3).toNat : Int), .int .u8 ((wantV xs i 4).toNat : Int), .int .u8 ((wantV xs i 5).toNat : Int), .int .u8 ((wantV xs i 6).toNat : Int), .int .u8 ((wantV xs i 7).toNat : Int)]
theorem wantC_get (xs : List UInt8) (i k : Nat) (hk : k < 8) : (wantC xs i)[k]? = some (.int .u8 ((wantV xs i k).toNat : Int)) := by
  rcases (by omega : k = 0 ∨ k = 1 ∨ k = 2 ∨ k = 3 ∨ k = 4 ∨ k = 5 ∨ k = 6 ∨ k = 7) with rfl | rfl | rfl | rfl | rfl | rfl | rfl | rfl <;> rfl
theorem wantC_set (xs : List UInt8) (i : Nat) (x : UInt8) (hx : xs.getD i 0 = x) : (wantC xs i).setIfInBounds (i % 8) (.int .u8 (x.toNat : Int)) = wantC xs (i + 1) := by
  apply Array.ext_getElem?
  intro k
  rw [Array.getElem?_setIfInBounds]
  have hm := Nat.mod_lt i (show 0 < 8 by omega)
  have hs : (wantC xs i).size = 8 := rfl
  by_cases hk : i % 8 = k
  · rw [if_pos hk, if_pos (by omega), wantC_get _ _ _ (by omega)]
    show _ = some (Value.int .u8 (((if i % 8 = k then xs.getD i 0 else wantV xs i k) : UInt8).toNat : Int))
    rw [if_pos hk, hx]
  · rw [if_neg hk]
    rcases Nat.lt_or_ge k 8 with h8 | h8
    · rw [wantC_get _ _ _ h8, wantC_get _ _ _ h8]
      show _ = some (Value.int .u8 (((if i % 8 = k then xs.getD i 0 else wantV xs i k) : UInt8).toNat : Int))
      rw [if_neg hk]
    · rw [Array.getElem?_eq_none (by rw [hs]; exact h8), Array.getElem?_eq_none (by show 8 ≤ k; exact h8)]
theorem want_zero : (Try.prog.info? 32).map (fun i => (i.zero, i.size)) = some (some (.agg #[.int .u8 0, .int .u8 0, .int .u8 0, .int .u8 0, .int .u8 0, .int .u8 0, .int .u8 0, .int .u8 0]), 8) := by kernel_rfl
set_option maxRecDepth 100000 in
theorem zero_want (W : World) : (zeroValue 32).run Try.prog W = .ok (.agg #[.int .u8 0, .int .u8 0, .int .u8 0, .int .u8 0, .int .u8 0, .int .u8 0, .int .u8 0, .int .u8 0]) W := by
  obtain ⟨i, hi, he⟩ := Option.map_eq_some_iff.1 want_zero
  injection he with h1 h2
  simp [zeroValue, typeInfo, hi, h1]
theorem JAt.far {W : World} {B T j g q i : Nat} {J : JS} {t : TypeId} {cs : Array Value} (h : JAt W B T j g J) (hb : Blk W q t cs) (h1 : t ≠ 68) (h2 : t ≠ 37) (h3 : t ≠ 5) (u : Value) : JAt (W.setCell ⟨q, i, none⟩ u) B T j g J := by
  obtain ⟨k1, v, k2, k3⟩ := h
  exact ⟨k1, v, k2.far (fun e => Blk.ne_ hb k2 h1 e.symm) u, k3.far hb h2 h3 i u⟩
/-- the sectors as they are at the end -/
def wantL (xs : List UInt8) (n : Nat) : List (List UInt8) := (List.range 8).map fun k => List.replicate 64 (wantV xs n k)
theorem wantL_get (xs : List UInt8) (n k : Nat) (hk : k < 8) : (wantL xs n)[k]? = some (List.replicate 64 (wantV xs n k)) := by
  unfold wantL
  rw [List.getElem?_map, List.getElem?_range hk]
  rfl
theorem Inv.read {xs : List UInt8} {z i : Nat} {N : List (List UInt8)} {J : JS} (h : Inv xs z i N J) (hz5 : 5 ≤ z) (hz : z ≤ 1000) : ((openN z J.m J.f J.a J.pos (recsJ xs z (J.f - 1) J.count) N).drop z).take 8 = wantL xs i := by
  apply List.ext_getElem?
  intro k
  rcases Nat.lt_or_ge k 8 with hk | hk
  · rw [List.getElem?_take_of_lt hk, List.getElem?_drop, h.open_home hz5 hz k hk, wantL_get xs i k hk]
  · rw [List.getElem?_eq_none (by rw [List.length_take]; omega), List.getElem?_eq_none (by unfold wantL; simp; exact hk)]
theorem openN_len (z m f a a' : Nat) (rs : List (List PutL)) (N : List (List UInt8)) : (openN z m f a a' rs N).length = N.length := by
  unfold openN
  cases decide (0 < rs.length)
  · rfl
  · exact settleN_len _ _
/-- ahead of each transaction -/
def ManyRel (W : World) (B : Nat) (xs : List UInt8) (z g j wb i : Nat) (wr : World) : Prop :=
  ∃ J N c T, T ≤ wr.heap.size ∧ B ≤ wr.heap.size ∧ c ≤ 8 + 100 * i ∧ JAt wr B T j g J ∧ DevC wr B g c N 0 ∧ Inv xs z i N J ∧ Blk wr wb 32 (wantC xs i) ∧ Below W.heap.size W wr
set_option maxRecDepth 100000 in
set_option maxHeartbeats 1000000 in
theorem many_no (nn : Int) (A : Option Addr) (n c : Nat) (W : World) (h60 : 60 < n) :
    Calls Try.prog 3 #[.int .i64 nn, .slice A n c] W fun e W' => e = .returned (.bool true) ∧ Below W.heap.size W W' := by
  have t1 : decide ((n : Int) > 60) = true := decide_eq_true (by omega)
  have t2 : decide (n > 60) = true := decide_eq_true (by omega)
  have HA1 := hide (awake_any W)
  go_enter Try.func3, Try.ntmps3
  go_wp2_with fail
  refine (unhide HA1).mono ?_
  rintro e w1 ⟨rfl, hb1⟩
  have HB1 := hide hb1
  have HA2 := hide (awake_any w1)
  clear hb1 HA1
  go_wp2_with fail
  refine (unhide HA2).mono ?_
  rintro e w2 ⟨rfl, hb2⟩
  have HB2 : Hid (Below W.heap.size W w2) := HB1.out.trans (hb2.mono HB1.out.size)
  clear hb2 HA2
  go_wp2
  go_ret
  exact ⟨rfl, HB2.out⟩

set_option maxRecDepth 100000 in
set_option maxHeartbeats 4000000 in
theorem many_any (nn : Int) (xs : List UInt8) (A : Option Addr) (n c : Nat) (W : World) (hn : n = xs.length) (h60 : xs.length ≤ 60) (hA : BytesAt W W.heap.size A xs) :
    Calls Try.prog 3 #[.int .i64 nn, .slice A n c] W fun e W' => e = .returned (.bool true) ∧ Below W.heap.size W W' := by
  subst hn
  have t1 : decide ((xs.length : Int) > 60) = false := decide_eq_false (by omega)
  have t2 : decide (xs.length > 60) = false := decide_eq_false (by omega)
  have HA1 := hide (awake_any W)
  have HXS := hide hA
  clear hA
  go_enter Try.func3, Try.ntmps3
  go_wp2_with fail
  refine (unhide HA1).mono ?_
  rintro e w1 ⟨rfl, hb1⟩
  have HB1 := hide hb1
  clear hb1 HA1
  obtain ⟨k20, hk20, ek20⟩ := mod_pos nn 20 (by omega) (by omega)
  rw [show ((20 : Nat) : Int) = 20 from rfl] at ek20
  obtain ⟨z, hz⟩ : ∃ z, 5 + k20 = z := ⟨_, rfl⟩
  have h5 : 5 ≤ z := by omega
  have h24 : z ≤ 24 := by omega
  have ez : wrap64 (5 + (wrap64 (nn.tmod 20 + 20)).tmod 20) = (z : Int) := by
    rw [ek20]
    unfold wrap64
    omega
  clear hz ek20
  go_upto_region 4 with fail
  rw [ez]
  clear ez hk20
  have HNW := hide (cnew_any w1 (z + 8) (by omega) (by omega))
  rw [show ((z + 8 : Nat) : Int) = (z : Int) + 8 from rfl] at HNW
  have i8 : wrap64 ((z : Int) + 8) = (z : Int) + 8 := by unfold wrap64; omega
  go_wp2_with fail
  refine (unhide HNW).mono ?_
  rintro e w2 ⟨g, rfl, hd2, hb2⟩
  have hB2 : w1.heap.size ≤ w2.heap.size := hb2.size
  have HBX2 : Hid (Below W.heap.size W w2) := HB1.out.trans (hb2.mono HB1.out.size)
  have HFM := hide (format_any (n := z) hd2 hB2 (by omega) h5 (by rw [List.length_replicate]; omega))
  have hW1 : W.heap.size ≤ w1.heap.size := HB1.out.size
  clear hd2 hb2 HNW HB1
  go_wp2_with fail
  refine (unhide HFM).mono ?_
  rintro e w3 ⟨rfl, hd3, hk3⟩
  have hB3 : w1.heap.size ≤ w3.heap.size := Nat.le_trans hB2 hk3.1.size
  have HBX3 : Hid (Below W.heap.size W w3) := HBX2.out.trans (hk3.1.mono hW1)
  have HOP := hide (open_any hd3 hB3 (by omega) (open_fresh z (z + 8) h5 (by omega) (by omega)))
  clear hd3 hk3 HFM HBX2 hB2
  go_wp2_with fail
  refine (unhide HOP).mono ?_
  rintro e w4 ⟨j, rfl, hj4, hd4, hk4⟩
  have hB4 : w1.heap.size ≤ w4.heap.size := Nat.le_trans hB3 hk4.1.size
  have HBX4 : Hid (Below W.heap.size W w4) := HBX3.out.trans (hk4.1.mono hW1)
  have hal : Below w4.heap.size w4 (w4.alloc (.cells (wantC xs 0) 32)) := (Below.refl _ _).alloc (Nat.le_refl _) _
  have HREL : Hid (ManyRel W w1.heap.size xs z g j w4.heap.size 0 (w4.alloc (.cells (wantC xs 0) 32))) :=
    ⟨freshJ z, _, _, _, hal.size, Nat.le_trans hB4 hal.size, Nat.le_refl _, JAt.lift hj4 hal, DevC.lift hd4 hal, inv_zero xs z h5, Blk.new _ _ _, HBX4.out.trans (hal.mono HBX4.out.size)⟩
  have hzw := fun W' => zero_want W'
  clear hj4 hd4 hk4 HOP HBX3 hB3 hal
  have e0 : wantC xs 0 = #[.int .u8 0, .int .u8 0, .int .u8 0, .int .u8 0, .int .u8 0, .int .u8 0, .int .u8 0, .int .u8 0] := rfl
  rw [e0] at HREL
  clear e0
  go_wp2_with fail
  clear hzw HBX4
  go_loopw [12] (fun s12 wr => ∃ i : Nat, i ≤ xs.length ∧ s12 = .int .i64 i ∧ ManyRel W w1.heap.size xs z g j w4.heap.size i wr) (fun s12 _ => xs.length - (intOf s12).toNat)
  case atStart => exact ⟨0, Nat.zero_le _, rfl, HREL.out⟩
  case round =>
    clear HREL
    obtain ⟨i, hi, rfl, J, N, cc, T, hT, hBr, hcc, hj, hd, hinv, hwb, hbe⟩ := hrel
    have HJ := hide hj
    have HD := hide hd
    have HINV := hide hinv
    have HWB := hide hwb
    have HBE := hide hbe
    clear hj hd hinv hwb hbe
    by_cases hlt : i < xs.length
    · have hm8 := Nat.mod_lt i (show 0 < 8 by omega)
      have e8 : (i : Int).tmod 8 = ((i % 8 : Nat) : Int) := by
        rw [Int.tmod_eq_emod_of_nonneg (by omega)]
        omega
      obtain ⟨ad, eA, _, hx⟩ := BytesAt.at_ (HXS.out.lift HBE.out (Nat.le_refl _)) hlt
      obtain ⟨x, ex⟩ : ∃ x, xs[i] = x := ⟨_, rfl⟩
      rw [ex] at hx
      have HXC : Hid (∀ w', Below W.heap.size W w' → w'.cell? (ad.add i) = some (.int .u8 (x.toNat : Int))) := fun w' hw => by
        obtain ⟨ad', eA', _, hx'⟩ := BytesAt.at_ (HXS.out.lift hw (Nat.le_refl _)) hlt
        rw [eA] at eA'
        injection eA' with eA'
        subst eA'
        rw [ex] at hx'
        exact hx'
      have hxd : xs.getD i 0 = x := by rw [List.getD_eq_getElem?_getD, List.getElem?_eq_getElem hlt, ex]; rfl
      have hput : putJ xs z i = (z + i % 8, List.replicate 64 x) := by unfold putJ; rw [hxd]
      have HPUT := hide hput
      have HXD := hide hxd
      have HFL := hide (filled_any x wr)
      have i1 : (0 : Int) ≤ (i : Int) := by omega
      have i2 : (i : Int) < (xs.length : Int) := by omega
      subst eA
      obtain ⟨i8', ei8⟩ : ∃ k, i % 8 = k := ⟨_, rfl⟩
      rw [ei8] at e8 hm8
      have HE8 := hide ei8
      clear ei8 hput hxd ex
      go_wp2_with fail
      refine (unhide HFL).mono ?_
      rintro e wf ⟨rfl, hff, hbf⟩
      have HFF := hide (sec_filled hff (List.length_replicate))
      have HBF := hide hbf
      have hbl := fun W' => build_put W' ((z : Int) + (i8' : Int)) wr.heap.size 64 64
      clear hff hbf HFL
      have HAL : Hid (Below wf.heap.size wf (wf.alloc (.cells #[.int .i64 ((z : Int) + (i8' : Int)), .slice (some ⟨wr.heap.size, 0, none⟩) 64 64] 37))) := (Below.refl _ _).alloc (Nat.le_refl _) _
      have HPA : Hid (PutsAt (wf.alloc (.cells #[.int .i64 ((z : Int) + (i8' : Int)), .slice (some ⟨wr.heap.size, 0, none⟩) 64 64] 37)) (some ⟨wf.heap.size, 0, none⟩) [putJ xs z i]) := by
        show PutsAt _ _ _
        rw [HPUT.out, HE8.out]
        exact putsAt_one (Blk.new _ _ _) (HFF.out.below HAL.out)
      obtain ⟨wp, hwp⟩ : ∃ wp, wf.alloc (.cells #[.int .i64 ((z : Int) + (i8' : Int)), .slice (some ⟨wr.heap.size, 0, none⟩) 64 64] 37) = wp := ⟨_, rfl⟩
      rw [hwp] at HAL HPA
      have HBP : Hid (Below wr.heap.size wr wp) := HBF.out.trans (HAL.out.mono HBF.out.size)
      have hBp : w1.heap.size ≤ wp.heap.size := Nat.le_trans hBr HBP.out.size
      have hTf : T ≤ wf.heap.size := Nat.le_trans hT HBF.out.size
      have HCM := hide (commit_any (k := 1) (HJ.out.lift HBP.out) (HD.out.lift HBP.out) hBp (by omega) HPA.out (fun ad e => by injection e with e; subst e; exact hTf) (HINV.out.ok h5 (by omega) (by omega)))
      rw [show [putJ xs z i].length = 1 from rfl] at HCM
      clear HFF HAL HPA
      go_wp2_with fail
      refine (unhide HCM).mono ?_
      rintro e wc ⟨rfl, hjc, hdc, hkc⟩
      have HJC := hide hjc
      have HINC := hide (HINV.out.step h5 (by omega) (by omega))
      have HDC : Hid (DevC wc w1.heap.size g (cc + 100) (doneN J N [putJ xs z i]) 0) := hdc.more (by have := HINV.out.owed; have h2 := HINV.out.cs; rw [this, putsJ_len]; omega)
      have HWBC := hide (hkc.2 _ _ _ (HWB.out.below HBP.out HWB.out.lt) (by decide) (by decide) (by decide) (by decide) (by decide))
      have HBEC : Hid (Below W.heap.size W wc) := (HBE.out.trans (HBP.out.mono HBE.out.size)).trans (hkc.1.mono hW1)
      have hBc : w1.heap.size ≤ wc.heap.size := Nat.le_trans hBp hkc.1.size
      have HNM := hide (number_j hjc)
      rw [HINC.out.next, show ((i + 1 + 1 : Nat) : Int) = (i : Int) + 2 by omega] at HNM
      clear hjc hdc hkc HCM hbl hwp HBP HBF
      have hxc := HXC.out wc HBEC.out
      have i3 : (0 : Int) ≤ (i8' : Int) := by omega
      have i4 : (i8' : Int) < 8 := by omega
      have yw : wc.cell? ⟨w4.heap.size, i8', none⟩ = some (.int .u8 ((wantV xs i i8').toNat : Int)) := by rw [HWBC.out.cell, wantC_get _ _ _ hm8]
      have zw := HWBC.out.frozen i8'
      have hW4 : W.heap.size ≤ w4.heap.size := Nat.le_trans hW1 hB4
      have HRE : Hid (ManyRel W w1.heap.size xs z g j w4.heap.size (i + 1) (wc.setCell ⟨w4.heap.size, i8', none⟩ (.int .u8 (x.toNat : Int)))) := by
        refine ⟨_, _, cc + 100, wc.heap.size, by simp, by simpa using hBc, by omega, HJC.out.far HWBC.out (by decide) (by decide) (by decide) _, HDC.out.far HWBC.out (by decide) (by decide) (by decide) (by decide) _, HINC.out, ?_, HBEC.out.setCell (p := ⟨w4.heap.size, i8', none⟩) hW4 _⟩
        have hb := HWBC.out.set_ i8' (.int .u8 (x.toNat : Int))
        rw [← HE8.out, wantC_set xs i x HXD.out, HE8.out] at hb
        exact hb
      go_wp2_with (go_at_call 10; refine (unhide HNM).mono ?_; rintro e w' ⟨rfl, rfl⟩)
      go_roundw
      case rel => exact ⟨i + 1, by omega, by go_num, HRE.out⟩
      case measure => simp [intOf]; omega
    · obtain rfl : i = xs.length := by omega
      clear hlt
      have hlen := HINV.out.len
      have HCR := hide (HD.out.crash (-1) 0 0 none)
      have hbc := fun W' => build_crash W'
      go_wp2_with fail
      refine (unhide HCR).mono ?_
      rintro e w5 ⟨rfl, hd5, hk5⟩
      have hB5 : w1.heap.size ≤ w5.heap.size := Nat.le_trans hBr hk5.1.size
      have HBE5 : Hid (Below W.heap.size W w5) := HBE.out.trans (hk5.1.mono hW1)
      have HWB5 := hide (hk5.2 _ _ _ HWB.out (by decide) (by decide) (by decide))
      have HOP := hide (open_any hd5 hB5 (by omega) (HINV.out.open_ok h5 (by omega) (by omega)))
      have hol : (recsJ xs z (J.f - 1) J.count).flatten.length ≤ 1000 := (HINV.out.open_ok h5 (by omega) (by omega)).owed
      clear hd5 hk5 HCR hbc HJ HD HWB HBE
      go_wp2_with fail
      refine (unhide HOP).mono ?_
      rintro e w6 ⟨j2, rfl, hj6, hd6, hk6⟩
      have HJ6 := hide hj6
      have HBE6 : Hid (Below W.heap.size W w6) := HBE5.out.trans (hk6.1.mono hW1)
      have HWB6 := hide (hk6.2 _ _ _ HWB5.out (by decide) (by decide) (by decide) (by decide) (by decide))
      have HRD := hide (hd6.read (by omega) z 8 (by rw [openN_len, hlen]; omega))
      rw [HINV.out.read h5 (by omega), show ((8 : Nat) : Int) = 8 from rfl] at HRD
      clear hj6 hd6 hk6 HOP HBE5 HWB5 hB5 hol
      go_wp2_with fail
      refine (unhide HRD).mono ?_
      rintro e wq ⟨A', kr, rfl, hrq, _, hkq⟩
      obtain ⟨gr, cur, eA', _⟩ := hrq (by show 0 < 8; omega)
      subst eA'
      have HRQ := hide hrq
      have HJQ := hide (HJ6.out.dkeep hkq)
      have HBEQ : Hid (Below W.heap.size W wq) := HBE6.out.trans (hkq.1.mono hW1)
      have HWBQ := hide (hkq.2 _ _ _ HWB6.out (by decide) (by decide) (by decide))
      have HQQ : Hid (Below wq.heap.size wq wq) := Below.refl _ _
      clear hrq hkq HRD HJ6 HBE6 HWB6
      go_wp2_with fail
      go_loopw [20] (fun s20 wr => ∃ kk : Nat, kk ≤ 8 ∧ s20 = .int .i64 kk ∧ Below wq.heap.size wq wr) (fun s20 _ => 8 - (intOf s20).toNat)
      case atStart => exact ⟨0, Nat.zero_le _, rfl, HQQ.out⟩
      case round =>
        clear HQQ
        obtain ⟨kk, hkk, rfl, hbr⟩ := hrel
        have HBR := hide hbr
        clear hbr
        by_cases hlt8 : kk < 8
        · obtain ⟨gr', gi, ci, e, hci, _, hxr⟩ := rows_at HRQ.out (wantL_get xs xs.length kk hlt8)
          injection e with e
          injection e with e
          subst e
          rw [List.length_replicate] at hci hxr
          have hwc := wantC_get xs xs.length kk hlt8
          obtain ⟨y, ey⟩ : ∃ y, wantV xs xs.length kk = y := ⟨_, rfl⟩
          rw [ey] at hxr hwc
          have HSX : Hid (∀ x, Below wq.heap.size wq x → x.cell? ⟨gr, kk, none⟩ = some (.slice (some ⟨gi, 0, none⟩) 64 ci) ∧ x.cell? ⟨w4.heap.size, kk, none⟩ = some (.int .u8 (y.toNat : Int)) ∧ (convert 22 9 (.slice (some ⟨gi, 0, none⟩) 64 ci)).run Try.prog x = .ok (.string (strOf (List.replicate 64 y))) x) := fun x hx => by
            have hb := HWBQ.out.below hx HWBQ.out.lt
            exact ⟨(hxr x hx).1, by rw [hb.cell]; exact hwc, conv_str 64 ci List.length_replicate.symm (hxr x hx).2⟩
          have i1 : (0 : Int) ≤ (kk : Int) := by omega
          have i2 : (kk : Int) < 8 := by omega
          clear hxr hwc ey
          go_wp2_with fail
          refine region_U (fun x => x.cell? ⟨gr, kk, none⟩ = some (.slice (some ⟨gi, 0, none⟩) 64 ci) ∧ x.cell? ⟨w4.heap.size, kk, none⟩ = some (.int .u8 (y.toNat : Int)) ∧ (convert 22 9 (.slice (some ⟨gi, 0, none⟩) 64 ci)).run Try.prog x = .ok (.string (strOf (List.replicate 64 y))) x) 10 (by kernel_rfl) ?_
          intro Y hY
          have HBY : Hid (Below wq.heap.size wq Y) := by rw [hY]; exact HBR.out.drew
          have HSY := hide (HSX.out Y HBY.out)
          clear hY
          refine takeV 11 0 (.slice (some ⟨gr, 0, none⟩) 8 kr) rfl (by kernel_rfl) (fun _ _ _ h => h) (by rfl) (fun x hS => by
            obtain ⟨s0, s1, s2⟩ := hS
            go_simp) HSY.out ?_
          simp only [Act.put, List.getElem_toArray, List.getElem_cons_succ, List.getElem_cons_zero, List.setIfInBounds_toArray, List.set_cons_zero, List.set_cons_succ]
          refine takeV 11 1 (.int .i64 (kk : Int)) rfl (by kernel_rfl) (fun _ _ _ h => h) (by rfl) (fun x hS => by
            obtain ⟨s0, s1, s2⟩ := hS
            go_simp) HSY.out ?_
          simp only [Act.put, List.getElem_toArray, List.getElem_cons_succ, List.getElem_cons_zero, List.setIfInBounds_toArray, List.set_cons_zero, List.set_cons_succ]
          refine takeV 11 2 (.pointer (some ⟨gr, kk, none⟩)) rfl (by kernel_rfl) (fun _ _ _ h => h) (by rfl) (fun x hS => by
            obtain ⟨s0, s1, s2⟩ := hS
            go_simp) HSY.out ?_
          simp only [Act.put, List.getElem_toArray, List.getElem_cons_succ, List.getElem_cons_zero, List.setIfInBounds_toArray, List.set_cons_zero, List.set_cons_succ]
          refine takeV 11 3 (.slice (some ⟨gi, 0, none⟩) 64 ci) rfl (by kernel_rfl) (fun _ _ _ h => h) (by rfl) (fun x hS => by
            obtain ⟨s0, s1, s2⟩ := hS
            go_simp) HSY.out ?_
          simp only [Act.put, List.getElem_toArray, List.getElem_cons_succ, List.getElem_cons_zero, List.setIfInBounds_toArray, List.set_cons_zero, List.set_cons_succ]
          refine takeV 11 4 (.string (strOf (List.replicate 64 y))) rfl (by kernel_rfl) (fun _ _ _ h => h) (by rfl) (fun x hS => by
            obtain ⟨s0, s1, s2⟩ := hS
            go_simp) HSY.out ?_
          simp only [Act.put, List.getElem_toArray, List.getElem_cons_succ, List.getElem_cons_zero, List.setIfInBounds_toArray, List.set_cons_zero, List.set_cons_succ]
          refine takeV 11 5 (.int .i64 (kk : Int)) rfl (by kernel_rfl) (fun _ _ _ h => h) (by rfl) (fun x hS => by
            obtain ⟨s0, s1, s2⟩ := hS
            go_simp) HSY.out ?_
          simp only [Act.put, List.getElem_toArray, List.getElem_cons_succ, List.getElem_cons_zero, List.setIfInBounds_toArray, List.set_cons_zero, List.set_cons_succ]
          refine takeV 11 6 (.pointer (some ⟨w4.heap.size, kk, none⟩)) rfl (by kernel_rfl) (fun _ _ _ h => h) (by rfl) (fun x hS => by
            obtain ⟨s0, s1, s2⟩ := hS
            go_simp) HSY.out ?_
          simp only [Act.put, List.getElem_toArray, List.getElem_cons_succ, List.getElem_cons_zero, List.setIfInBounds_toArray, List.set_cons_zero, List.set_cons_succ]
          refine takeV 11 7 (.int .u8 (y.toNat : Int)) rfl (by kernel_rfl) (fun _ _ _ h => h) (by rfl) (fun x hS => by
            obtain ⟨s0, s1, s2⟩ := hS
            go_simp) HSY.out ?_
          simp only [Act.put, List.getElem_toArray, List.getElem_cons_succ, List.getElem_cons_zero, List.setIfInBounds_toArray, List.set_cons_zero, List.set_cons_succ]
          have HFL := hide (filled_any y Y)
          refine oneU 8 rfl (by kernel_rfl) (by rfl) ?_
          go_wp2_with fail
          refine (unhide HFL).mono ?_
          rintro e y1 ⟨rfl, hf1, hb1⟩
          have HB1 : Hid (Below wq.heap.size wq y1) := HBY.out.trans (hb1.mono HBY.out.size)
          have HS1 := hide (HSX.out y1 HB1.out)
          have HCV := hide (conv_str 64 64 List.length_replicate.symm (bytes_blk hf1 (by rw [List.length_replicate, List.take_of_length_le (by simp [byts])])))
          clear hf1 hb1 HFL
          refine ⟨(by first | exact fun _ => HS1.out | exact HS1.out), ?_⟩
          try simp only [Act.put, List.getElem_toArray, List.getElem_cons_succ, List.getElem_cons_zero, List.setIfInBounds_toArray, List.set_cons_zero, List.set_cons_succ]
          refine oneU 9 rfl (by kernel_rfl) (by rfl) ?_
          have hcv := HCV.out
          go_wp2_with fail
          clear hcv
          refine ⟨(by first | exact fun _ => HS1.out | exact HS1.out), ?_⟩
          try simp only [Act.put, List.getElem_toArray, List.getElem_cons_succ, List.getElem_cons_zero, List.setIfInBounds_toArray, List.set_cons_zero, List.set_cons_succ]
          refine oneU 10 rfl (by kernel_rfl) (by rfl) ?_
          have hse : ((strOf (List.replicate 64 y)).toList == (strOf (List.replicate 64 y)).toList) = true := by simp
          go_wp2_with fail
          refine doneU (by kernel_rfl) ?_ _
          clear hse HCV HS1 HSY HBY HSX
          go_wp2
          go_roundw
          case rel => exact ⟨kk + 1, by omega, by go_num, HB1.out⟩
          case measure => simp [intOf]; omega
        · obtain rfl : kk = 8 := by omega
          have hcnt := HINV.out.cnt
          have hnx : (openJ z J.m J.f J.a J.pos (recsJ xs z (J.f - 1) J.count)).next = xs.length + 1 := by
            show J.f + (recsJ xs z (J.f - 1) J.count).length = _
            rw [recsJ_len]
            exact hcnt
          have HNM := hide (number_j (HJQ.out.lift HBR.out))
          rw [hnx, show ((xs.length + 1 : Nat) : Int) = (xs.length : Int) + 1 from rfl] at HNM
          have HBF : Hid (Below W.heap.size W wr) := HBEQ.out.trans (HBR.out.mono HBEQ.out.size)
          rw [show ((8 : Nat) : Int) = 8 from rfl]
          clear hnx hcnt
          go_wp2_with (go_at_call 10; refine (unhide HNM).mono ?_; rintro e w' ⟨rfl, rfl⟩)
          go_ret
          exact ⟨rfl, HBF.out⟩
end Go.Proofs.Ytogjdfiimflbaaa
