/-
  icehouselaw13.DeviceKeeps: for every input the call returns true and writes nothing that was there. No condition.
-/
import Derived.Test.YtenhjnicadjbaaaDevOrder
namespace Go.Proofs.Ytenhjnicadjbaaa
open Go Go.RowKit

theorem settleK_getN (N : List (List UInt8)) (j : Nat) : ∀ (q : List (Nat × List UInt8)) (K : List (List UInt8)), (∀ e ∈ q, e.1 ≠ j) → (settleK K N q)[j]? = K[j]?
  | [], _, _ => rfl
  | e :: r, K, h => by
    rw [settleK, settleK_getN N j r _ fun x hx => h x (List.mem_cons_of_mem _ hx), List.getElem?_set_ne (h e List.mem_cons_self)]
def addB (i : Nat) : UInt8 := UInt8.ofNat (10 + i)
def stK : Nat → DS
  | 0 => newS 8
  | i + 1 => writeS (tick (stK i)) i [fullL (addB i)]
theorem stK_facts : ∀ i, Calm (stK i) ∧ (stK i).kept.length = 8 ∧ (stK i).n = i ∧ (stK i).q.length = i
  | 0 => ⟨⟨rfl, rfl⟩, rfl, rfl, rfl⟩
  | i + 1 => by
    obtain ⟨h1, h2, h3, h4⟩ := stK_facts i
    refine ⟨⟨h1.1, h1.2⟩, h2, ?_, ?_⟩
    · show (stK i).n + 1 = _
      omega
    · show ((stK i).q ++ [_]).length = _
      rw [List.length_append, h4]
      rfl
def baseK : List (List UInt8) := (List.range 8).map fun i => fullL (addB i)
theorem base_kept : (settleS (tick (stK 8))).kept = baseK := by decide
theorem base_now : (settleS (tick (stK 8))).now = baseK := by decide
theorem calm_tick {S : DS} (h : Calm S) : Calm (tick S) := ⟨h.1, h.2⟩
theorem calm_settle {S : DS} (h : Calm S) : Calm (settleS S) := ⟨h.1, h.2⟩
theorem st5 : ∃ S, settleS (tick (stK 8)) = S ∧ Calm S ∧ S.kept = baseK ∧ S.now = baseK ∧ S.n = 9 ∧ S.q = [] :=
  ⟨_, rfl, calm_settle (calm_tick (stK_facts 8).1), base_kept, base_now, by
    have h := (stK_facts 8).2.2.1
    generalize stK 8 = X at *
    show X.n + 1 = 9
    omega, rfl⟩
theorem baseK_get {j : Nat} (h : j < 8) : baseK[j]? = some (fullL (addB j)) := by
  unfold baseK
  rw [List.getElem?_map, List.getElem?_range h]
  rfl

theorem getD_set (l : List Bool) (k j : Nat) (hk : k < l.length) : (l.set k true).getD j false = if k = j then true else l.getD j false := by
  rw [List.getD_eq_getElem?_getD, List.getD_eq_getElem?_getD, List.getElem?_set]
  by_cases h : k = j
  · subst h
    simp [hk]
  · simp [h]
theorem keep_step {S : DS} {news : List Bool} {k : Nat} {s : List UInt8} (hk : k < 8) (hnl : news.length = 8) (hqa : ∀ e ∈ S.q, news.getD e.1 false = true) (hnw : ∀ j, news.getD j false = false → S.now[j]? = baseK[j]?) :
    (∀ e ∈ (writeS (tick S) k [s]).q, (news.set k true).getD e.1 false = true) ∧ (∀ j, (news.set k true).getD j false = false → (writeS (tick S) k [s]).now[j]? = baseK[j]?) := by
  refine ⟨fun e he => ?_, fun j hj => ?_⟩
  · rw [getD_set _ _ _ (by omega)]
    by_cases h : k = e.1
    · rw [if_pos h]
    · rw [if_neg h]
      rcases List.mem_append.1 (show e ∈ S.q ++ [(k, s)] from he) with he | he
      · exact hqa e he
      · exact absurd (by rw [List.mem_singleton.1 he]) h
  · rw [getD_set _ _ _ (by omega)] at hj
    by_cases h : k = j
    · rw [if_pos h] at hj
      cases hj
    · rw [if_neg h] at hj
      show (S.now.set k s)[j]? = _
      rw [List.getElem?_set_ne h]
      exact hnw j hj

/-- the state of the second loop -/
def KeepRel (wr : World) (B g gw : Nat) (news : List Bool) (i : Nat) : Prop := ∃ S, DevAt wr B g S ∧ Calm S ∧ S.kept = baseK ∧ S.n ≤ 20 + i ∧ S.q.length ≤ i ∧ (∀ e ∈ S.q, news.getD e.1 false = true) ∧ (∀ j, news.getD j false = false → S.now[j]? = baseK[j]?) ∧ news.length = 8 ∧ Blk wr gw 35 (bools news).toArray
theorem mod_pos (x : Int) (m : Nat) (hm : 0 < m) (hm2 : m ≤ 1000) : ∃ k : Nat, k < m ∧ (wrap64 (x.tmod m + m)).tmod m = (k : Int) := by
  have a := Int.tmod_lt_of_pos x (b := (m : Int)) (by omega)
  have b := Int.lt_tmod_of_pos x (b := (m : Int)) (by omega)
  have e1 : wrap64 (x.tmod m + m) = x.tmod m + m := IntWalk.wrap64_in _ ⟨by omega, by omega⟩
  rw [e1]
  have c := Int.tmod_lt_of_pos (x.tmod m + m) (b := (m : Int)) (by omega)
  have d := Int.tmod_nonneg (m : Int) (a := x.tmod m + m) (by omega)
  exact ⟨((x.tmod m + m).tmod m).toNat, by omega, by omega⟩
theorem bools_sets (l : List Bool) (j : Nat) (x : Bool) : (bools l).toArray.setIfInBounds j (.bool x) = (bools (l.set j x)).toArray := by
  simp [bools, List.map_set]

set_option maxRecDepth 100000 in
set_option maxHeartbeats 4000000 in
theorem devKeeps_any (x0 x1 x2 x3 torn P part : Int) (keep : List Bool) (A : Option Addr) (n c : Nat) (W : World) (hn : n = keep.length) (hl : keep.length ≤ 300) (hA : Reads W W.heap.size 1 A n (bools keep)) :
    Calls Try.prog 3 #[.agg #[.int .i64 x0, .int .i64 x1, .int .i64 x2, .int .i64 x3], .agg #[.slice A n c, .int .i64 torn, .int .i64 P], .int .i64 part] W fun e W' => e = .returned (.bool true) ∧ Below W.heap.size W W' := by
  subst hn
  have HA := hide hA
  have HAW := hide (fun X => awake13 X)
  clear hA
  go_enter Try.func3, Try.ntmps3
  go_wp2_with fail
  refine (HAW.out _).mono ?_
  rintro e w1 ⟨rfl, hbe⟩
  have HB1 : Hid (Below W.heap.size W w1) := (((Below.refl _ _).alloc (Nat.le_refl _) _).alloc (by simp) _).trans (hbe.mono (by simp; omega))
  have HX : Hid (Blk w1 W.heap.size 22 #[.int .i64 x0, .int .i64 x1, .int .i64 x2, .int .i64 x3]) := ((Blk.new _ _ _).alloc _).below hbe (by simp; omega)
  have HC : Hid (Blk w1 (W.heap.size + 1) 25 #[.slice A keep.length c, .int .i64 torn, .int .i64 P]) := by
    have := Blk.new (W.alloc (.cells #[.int .i64 x0, .int .i64 x1, .int .i64 x2, .int .i64 x3] 22)) 25 #[.slice A keep.length c, .int .i64 torn, .int .i64 P]
    rw [World.size_alloc] at this
    exact this.below hbe (by simp)
  have hc0 := HC.out.cell 0
  have t1 : decide ((keep.length : Int) > 300) = false := decide_eq_false (by omega)
  clear hbe
  have rc0 : w1.cell? ⟨W.heap.size + 1, 0, none⟩ = some (.slice A keep.length c) := HC.out.cell 0
  clear hc0
  go_wp2_with fail
  refine (new_any _ 8 (by omega) (by omega)).mono ?_
  rintro e w2 ⟨g, rfl, hd, hb⟩
  have HB2 := hide hb
  have HD2 := hide hd
  have HXB := hide HX.out.lt
  have HCB := hide HC.out.lt
  clear hd hb rc0
  have HWB := hide HB1.out.size
  generalize hB : w1.heap.size = B at *
  have HBQ := hide hB
  clear hB
  go_wp2_with fail
  go_loopw [9] (fun v wr => ∃ i : Nat, i ≤ 8 ∧ v = .int .i64 i ∧ DevAt wr B g (stK i) ∧ Below B w1 wr) (fun v _ => 8 - (intOf v).toNat)
  case atStart => exact ⟨0, Nat.zero_le _, rfl, HD2.out, HB2.out⟩
  case round =>
    obtain ⟨i, hi, rfl, hd, hbe⟩ := hrel
    have HD := hide hd
    have HBE := hide hbe
    clear hd hbe
    by_cases hlt : i < 8
    · obtain ⟨hcm, hkl, hn, hq⟩ := stK_facts i
      have HCM := hide hcm
      have HKL := hide hkl
      have HF := hide (filled_at (addB i) (10 + (i : Int)) (by unfold addB; rw [UInt8.toNat_ofNat']; omega) wr)
      have HSU : Hid (stK (i + 1) = writeS (tick (stK i)) i [fullL (addB i)]) := rfl
      have HN := hide hn
      have HQ := hide hq
      clear hcm hkl hn hq
      generalize stK i = S at *
      generalize addB i = b at *
      have i1 : (0 : Int) ≤ (i : Int) := by omega
      have i2 : (i : Int) < 8 := by omega
      go_wp2_with fail
      refine (unhide HF).mono ?_
      rintro e w3 ⟨rfl, hbk, hb3⟩
      have HD3 := hide (HD.out.lift (hb3.trans ((Below.refl _ _).alloc hb3.size (.cells #[.slice (some ⟨wr.heap.size, 0, none⟩) 64 64] 32))))
      have HR3 := hide (rows_one (n := 64) (c := 64) hbk rfl (Nat.le_refl _))
      have HBE3 : Hid (Below B w1 (w3.alloc (.cells #[.slice (some ⟨wr.heap.size, 0, none⟩) 64 64] 32))) := (HBE.out.trans (hb3.mono (by have := HBE.out.size; have := HBQ.out; omega))).alloc (by have := HBE.out.size; have := hb3.size; have := HBQ.out; omega) _
      clear hbk hb3 HF
      go_wp2_with fail
      refine (write_calm _ B g S HD3.out HCM.out (by have := HN.out; omega) i [fullL b] _ 1 1 rfl (by rw [HKL.out]; show i + 1 ≤ 8; omega) (by have := HQ.out; simp; omega) (fun s hs => by rw [List.mem_singleton.1 hs]; exact fullL_len _) HR3.out).mono ?_
      rintro e w4 ⟨rfl, hd, hk⟩
      have HD4 := hide hd
      have HBE4 := hide (HBE3.out.trans hk.1)
      clear hd hk HD3 HR3 HBE3
      go_wp2
      go_roundw
      case rel => exact ⟨i + 1, by omega, by go_num, by rw [HSU.out]; exact HD4.out, HBE4.out⟩
      case measure => simp [intOf]; omega
    · obtain rfl : i = 8 := by omega
      go_wp2_with fail
      refine (flush_calm _ B g _ HD.out (stK_facts 8).1 (by have := (stK_facts 8).2.2.1; omega)).mono ?_
      rintro e w5 ⟨rfl, hd, hk⟩
      obtain ⟨S5, e5, s51, s52, s53, s54, s55⟩ := st5
      rw [e5] at hd
      have HD5 := hide hd
      have HS5 := hide (And.intro s51 (And.intro s52 (And.intro s53 (And.intro s54 s55))))
      clear e5 s51 s52 s53 s54 s55
      have HBE5 := hide (HBE.out.trans hk.1)
      clear hd hk HD HBE
      go_wp2_with fail
      go_loopw [11] (fun v wr => ∃ (i : Nat) (news : List Bool), i ≤ 4 ∧ v = .int .i64 i ∧ KeepRel wr B g w5.heap.size news i ∧ Below B w1 wr) (fun v _ => 4 - (intOf v).toNat)
      case atStart =>
        obtain ⟨s1, s2, s3, s4, s5⟩ := HS5.out
        refine ⟨0, List.replicate 8 false, Nat.zero_le _, rfl, ⟨S5, HD5.out.lift ((Below.refl _ _).alloc (Nat.le_refl _) _), s1, s2, by omega, by rw [s5]; exact Nat.zero_le _, fun e he => ?_, fun j _ => by rw [s3], rfl, Blk.new _ _ _⟩, HBE5.out.alloc (by have := HBE5.out.size; have := HBQ.out; omega) _⟩
        rw [s5] at he
        cases he
      case round =>
        obtain ⟨i, news, hi, rfl, ⟨S, hd, hcm, hkp, hn, hq, hqa, hnw, hnl, hw⟩, hbe⟩ := hrel
        have HD := hide hd
        have HCM := hide hcm
        have HKP := hide hkp
        have HQA := hide hqa
        have HNW := hide hnw
        have HNL := hide hnl
        have HW := hide hw
        have HBE := hide hbe
        clear hd hcm hkp hqa hnw hw hbe
        by_cases hlt : i < 4
        · obtain ⟨x, hx⟩ : ∃ x, wr.cell? ⟨W.heap.size, i, none⟩ = some (.int .i64 x) := by
            rw [(HX.out.below HBE.out HXB.out).cell]
            match i, hlt with
            | 0, _ => exact ⟨x0, rfl⟩
            | 1, _ => exact ⟨x1, rfl⟩
            | 2, _ => exact ⟨x2, rfl⟩
            | 3, _ => exact ⟨x3, rfl⟩
          obtain ⟨k, hk8, ek⟩ := mod_pos x 8 (by omega) (by omega)
          change (wrap64 (x.tmod 8 + 8)).tmod 8 = (k : Int) at ek
          have i1 : (0 : Int) ≤ (i : Int) := by omega
          have i2 : (i : Int) < 4 := by omega
          have k1 : (0 : Int) ≤ (k : Int) := by omega
          have k2 : (k : Int) < 8 := by omega
          have hr4 := HW.out.frozen k
          have hsz : (bools news).toArray.size = 8 := by simp [bools, hnl]
          obtain ⟨ov, hov⟩ : ∃ ov, (bools news).toArray[k]? = some ov := ⟨_, Array.getElem?_eq_getElem (by omega)⟩
          have hc4 := (HW.out.cell k).trans hov
          have hw4 : Blk (wr.setCell ⟨w5.heap.size, k, none⟩ (.bool true)) w5.heap.size 35 (bools (news.set k true)).toArray := by
            have := HW.out.set_ k (.bool true)
            rw [bools_sets] at this
            exact this
          have HW4 := hide hw4
          have HD4 := hide (HD.out.far (i := k) HW.out (by decide) (by decide) (by decide) (by decide) (.bool true))
          have HBE4 : Hid (Below B w1 (wr.setCell ⟨w5.heap.size, k, none⟩ (.bool true))) := HBE.out.setCell (p := ⟨w5.heap.size, k, none⟩) (by have := HBE5.out.size; have := HBQ.out; show B ≤ w5.heap.size; omega) _
          have HF := hide (filled_at (UInt8.ofNat (50 + i)) (50 + (i : Int)) (by rw [UInt8.toNat_ofNat']; omega) (wr.setCell ⟨w5.heap.size, k, none⟩ (.bool true)))
          have HSZ : Hid ((wr.setCell ⟨w5.heap.size, k, none⟩ (.bool true)).heap.size = wr.heap.size) := by
            show _ = _
            simp [World.setCell]
          clear hsz hov hw4 HW HD HBE
          generalize UInt8.ofNat (50 + i) = b at *
          go_wp2_with fail
          refine (unhide HF).mono ?_
          rintro e w6 ⟨rfl, hbk, hb6⟩
          rw [HSZ.out] at hbk
          have HD6 := hide (HD4.out.lift (hb6.trans ((Below.refl _ _).alloc hb6.size (.cells #[.slice (some ⟨wr.heap.size, 0, none⟩) 64 64] 32))))
          have HR6 := hide (rows_one (n := 64) (c := 64) hbk rfl (Nat.le_refl _))
          have HW6 := hide ((HW4.out.below hb6 HW4.out.lt).alloc (.cells #[.slice (some ⟨wr.heap.size, 0, none⟩) 64 64] 32))
          have HBE6 : Hid (Below B w1 (w6.alloc (.cells #[.slice (some ⟨wr.heap.size, 0, none⟩) 64 64] 32))) := (HBE4.out.trans (hb6.mono (by have := HBE4.out.size; have := HBQ.out; omega))).alloc (by have := HBE4.out.size; have := hb6.size; have := HBQ.out; omega) _
          clear hbk hb6 HF HW4 HD4 HBE4
          go_wp2_with fail
          refine (write_calm _ B g S HD6.out HCM.out (by omega) k [fullL b] _ 1 1 rfl (by rw [HKP.out]; show k + 1 ≤ 8; omega) (by simp; omega) (fun s hs => by rw [List.mem_singleton.1 hs]; exact fullL_len _) HR6.out).mono ?_
          rintro e w7 ⟨rfl, hd, hk⟩
          have HBE7 := hide (HBE6.out.trans hk.1)
          have HS7 : Hid (KeepRel w7 B g w5.heap.size (news.set k true) (i + 1)) := by
            obtain ⟨s1, s2⟩ := keep_step (s := fullL b) hk8 HNL.out HQA.out HNW.out
            refine ⟨_, hd, HCM.out, HKP.out, ?_, ?_, s1, s2, by rw [List.length_set]; exact HNL.out, hk.2 _ _ _ HW6.out (by decide) (by decide) (by decide)⟩
            · show S.n + 1 ≤ _
              omega
            · show (S.q ++ [_]).length ≤ _
              rw [List.length_append]
              show S.q.length + 1 ≤ _
              omega
          clear hd hk HD6 HR6 HW6 HBE6
          go_wp2
          go_roundw
          case rel => exact ⟨i + 1, news.set k true, by omega, by go_num, HS7.out, HBE7.out⟩
          case measure => simp [intOf]; omega
        · have hbl := HC.out.below HBE.out HCB.out
          have c0 : wr.cell? ⟨W.heap.size + 1, 0, none⟩ = some (.slice A keep.length c) := hbl.cell 0
          have c1 : wr.cell? ⟨W.heap.size + 1, 1, none⟩ = some (.int .i64 torn) := hbl.cell 1
          have c2 : wr.cell? ⟨W.heap.size + 1, 2, none⟩ = some (.int .i64 P) := hbl.cell 2
          clear hbl
          go_wp2_with fail
          have HK := hide (fun W' (hk : DKeep B wr W') => (HA.out.below (HB1.out.trans ((HBE.out.trans hk.1).mono HWB.out))).more (show W.heap.size ≤ W'.heap.size by have := HBE.out.size; have := hk.1.size; have := HWB.out; have := HB1.out.size; omega))
          refine (crash_any _ B g S HD.out keep torn P A keep.length c rfl (by omega) HK.out).mono ?_
          rintro e w8 ⟨rfl, hd, hk⟩
          have HD8 := hide hd
          have HBE8 := hide (HBE.out.trans hk.1)
          have HW8 := hide (hk.2 _ _ _ HW.out (by decide) (by decide) (by decide))
          have HSC : Hid (Calm (crashS S keep torn P) ∧ (crashS S keep torn P).kept.length = 8 ∧ (crashS S keep torn P).n = 0 ∧ (crashS S keep torn P).q.length = 0 ∧ ∀ j, news.getD j false = false → (crashS S keep torn P).now[j]? = baseK[j]?) := by
            refine ⟨⟨rfl, rfl⟩, ?_, rfl, rfl, fun j hj => ?_⟩
            · show (crashK _ _ _ _ _ _).length = 8
              rw [crashK_len, HKP.out]
              rfl
            · show (settleK S.now _ S.q)[j]? = _
              rw [settleK_getN]
              · exact HNW.out j hj
              · intro e he h
                have := HQA.out e he
                rw [h, hj] at this
                cases this
          clear hd hk HK HD HBE HW c0 c1 c2 HCM HKP HQA HNW
          have HNL8 := hide (show (crashS S keep torn P).now.length = 8 by rw [HD8.out.ok.1]; exact HSC.out.2.1)
          generalize crashS S keep torn P = SC at *
          go_wp2_with fail
          refine (read_calm _ B g SC HD8.out HSC.out.1 (by have := HSC.out.2.2.1; omega) 0 8 (by rw [HSC.out.2.1]; omega)).mono ?_
          rintro e w9 ⟨A9, c9, rfl, hr, hd, hk⟩
          have HD9 := hide hd
          have HBE9 := hide (HBE8.out.trans hk.1)
          have HW9 := hide (hk.2 _ _ _ HW8.out (by decide) (by decide) (by decide))
          have HR9 : Hid (RowsBlk w9 A9 SC.now) := by
            rw [List.drop_zero, List.take_of_length_le (by rw [HNL8.out]; omega)] at hr
            exact hr
          clear hr hd hk HD8 HW8 HBE8
          go_wp2_with fail
          go_loopw [15] (fun v wr => ∃ k : Nat, k ≤ 8 ∧ v = .int .i64 k ∧ Below w9.heap.size w9 wr) (fun v _ => 8 - (intOf v).toNat)
          case atStart => exact ⟨0, Nat.zero_le _, rfl, Below.refl _ _⟩
          case round =>
            obtain ⟨k, hk, rfl, hbe⟩ := hrel
            have HBX := hide hbe
            by_cases hlt8 : k < 8
            · have HC3 : Hid (∀ X, Below wr.heap.size wr X → X.cell? ⟨w5.heap.size, k, none⟩ = some (.bool (news.getD k false))) := fun X hX => by
                have hb' := (HW9.out.below hbe HW9.out.lt).below hX (HW9.out.below hbe HW9.out.lt).lt
                have hkn : k < news.length := by omega
                rw [hb'.cell, List.getElem?_toArray, bools, List.getElem?_map, List.getD_eq_getElem?_getD, List.getElem?_eq_getElem hkn]
                rfl
              have i1 : (0 : Int) ≤ (k : Int) := by omega
              have i2 : (k : Int) < 8 := by omega
              cases hnk : news.getD k false with
              | true =>
                rw [hnk] at HC3
                have r1 := HC3.out _ (Below.refl _ _)
                clear hbe
                go_wp2_with fail
                go_quiet (fail)
                go_wp2
                go_roundw
                case rel => exact ⟨k + 1, by omega, by go_num, below_drewN HBX.out _⟩
                case measure => simp [intOf]; omega
              | false =>
                rw [hnk] at HC3
                have hnow := (HSC.out.2.2.2.2 k hnk).trans (baseK_get hlt8)
                have hkn : k < SC.now.length := by rw [HNL8.out]; exact hlt8
                have hx : SC.now[k] = fullL (addB k) := by
                  rw [List.getElem?_eq_getElem hkn] at hnow
                  exact Option.some.inj hnow
                obtain ⟨gr, cur, rfl, hbr, hcr⟩ := (HR9.out.below hbe) (by rw [HNL8.out]; omega)
                obtain ⟨gi, ci, cu, h1, h2, h3, h4⟩ := hcr k hkn
                rw [hx] at h1 h2 h4
                rw [fullL_len] at h1 h2
                have HC1 : Hid (∀ X, Below wr.heap.size wr X → X.cell? ⟨gr, k, none⟩ = some (.slice (some ⟨gi, 0, none⟩) 64 ci)) := fun X hX => ((hbr.below hX hbr.lt).cell k).trans h1
                have HC2 : Hid (∀ X, Below wr.heap.size wr X → (convert 32 9 (.slice (some ⟨gi, 0, none⟩) 64 ci)).run Try.prog X = .ok (.string (strOf (fullL (addB k)))) X) := fun X hX => conv_str 64 ci (fullL_len _).symm (bytes_blk (h3.below hX h3.lt) h4)
                have HXB2 : Hid (10 + (k : Int) = ((addB k).toNat : Int)) := (show 10 + (k : Int) = ((addB k).toNat : Int) by unfold addB; rw [UInt8.toNat_ofNat']; omega)
                clear hbr hcr h1 h2 h3 h4 hx hbe hnow
                generalize addB k = x at *
                go_wp2_with fail
                refine wp_region_assert (listV [isV (.int .i64 (k : Int)), isV (.pointer (some ⟨w5.heap.size, k, none⟩)), isV (.bool false), isV (.bool true), isV (.bool true), isV (.slice (some ⟨gr, 0, none⟩) 8 c9), isV (.int .i64 (k : Int)), isV (.pointer (some ⟨gr, k, none⟩)), isV (.slice (some ⟨gi, 0, none⟩) 64 ci), isV (.string (strOf (fullL x))), isV (.int .i64 (k : Int)), isV (.int .i64 (10 + (k : Int))), isV (.int .u8 (10 + (k : Int))), FullRes x, isV (.string (strOf (fullL x))), isV (.bool false), isV (.bool false)]) (by kernel_rfl) (by kernel_rfl) (listV_stable ?_) ?_ ?_
                · exact ⟨isV_stable _, isV_stable _, isV_stable _, isV_stable _, isV_stable _, isV_stable _, isV_stable _, isV_stable _, isV_stable _, isV_stable _, isV_stable _, isV_stable _, isV_stable _, FullRes_stable _, isV_stable _, isV_stable _, isV_stable _, trivial⟩
                refine ⟨fun vs wk hbk hd => ?_, fun vs wk hbk hd => ?_, fun vs wk hbk hd => ?_, fun vs wk hbk hd => ?_, fun vs wk hbk hd => ?_, fun vs wk hbk hd => ?_, fun vs wk hbk hd => ?_, fun vs wk hbk hd => ?_, fun vs wk hbk hd => ?_, fun vs wk hbk hd => ?_, fun vs wk hbk hd => ?_, fun vs wk hbk hd => ?_, fun vs wk hbk hd => ?_, fun vs wk hbk hd => ?_, fun vs wk hbk hd => ?_, fun vs wk hbk hd => ?_, fun vs wk hbk hd => ?_, trivial⟩
                -- 0: Op.move t15
                · clear hd
                  go_wp2
                  exact ⟨rfl, rfl, rfl, Below.refl _ _⟩
                -- 1: Op.indexAddr 35 t10 t84
                · simp only [Act.put, List.setIfInBounds_toArray, List.set_cons_zero, List.set_cons_succ]
                  have e0 : vs 0 = .int .i64 (k : Int) := hd 0 (by kernel_rfl)
                  clear hd
                  go_wp2
                  first | exact ⟨rfl, rfl, rfl, Below.refl _ _⟩ | exact ⟨rfl, rfl, e0, Below.refl _ _⟩
                -- 2: Op.load 4 t85
                · simp only [Act.put, List.setIfInBounds_toArray, List.set_cons_zero, List.set_cons_succ, Nat.reduceAdd]
                  have e1 : vs 1 = .pointer (some ⟨w5.heap.size, k, none⟩) := hd 1 (by kernel_rfl)
                  have r1 := HC3.out wk (undrew hbk)
                  clear hd
                  go_wp2
                  first | exact ⟨rfl, rfl, rfl, Below.refl _ _⟩ | exact ⟨rfl, rfl, e1, Below.refl _ _⟩
                -- 3: Op.unOp UnOp.not 4 t86
                · simp only [Act.put, List.setIfInBounds_toArray, List.set_cons_zero, List.set_cons_succ, Nat.reduceAdd]
                  have e2 : vs 2 = .bool false := hd 2 (by kernel_rfl)
                  clear hd
                  go_wp2
                  first | exact ⟨rfl, rfl, rfl, Below.refl _ _⟩ | exact ⟨rfl, rfl, e2, Below.refl _ _⟩
                -- 4: Op.move t87
                · simp only [Act.put, List.setIfInBounds_toArray, List.set_cons_zero, List.set_cons_succ, Nat.reduceAdd]
                  have e3 : vs 3 = .bool true := hd 3 (by kernel_rfl)
                  clear hd
                  go_wp2
                  first | exact ⟨rfl, rfl, rfl, Below.refl _ _⟩ | exact ⟨rfl, rfl, e3, Below.refl _ _⟩
                -- 5: Op.move t13
                · simp only [Act.put, List.setIfInBounds_toArray, List.set_cons_zero, List.set_cons_succ, Nat.reduceAdd]
                  have e4 : vs 4 = .bool true := hd 4 (by kernel_rfl)
                  clear hd
                  go_wp2
                  first | exact ⟨rfl, rfl, rfl, Below.refl _ _⟩ | exact ⟨rfl, rfl, e4, Below.refl _ _⟩
                -- 6: Op.move t15
                · simp only [Act.put, List.setIfInBounds_toArray, List.set_cons_zero, List.set_cons_succ, Nat.reduceAdd]
                  have e4 : vs 4 = .bool true := hd 4 (by kernel_rfl)
                  clear hd
                  go_wp2
                  first | exact ⟨rfl, rfl, rfl, Below.refl _ _⟩ | exact ⟨rfl, rfl, e4, Below.refl _ _⟩
                -- 7: Op.indexAddr 37 t89 t90
                · simp only [Act.put, List.setIfInBounds_toArray, List.set_cons_zero, List.set_cons_succ, Nat.reduceAdd]
                  have e5 : vs 5 = .slice (some ⟨gr, 0, none⟩) 8 c9 := hd 5 (by kernel_rfl)
                  have e6 : vs 6 = .int .i64 (k : Int) := hd 6 (by kernel_rfl)
                  have e4 : vs 4 = .bool true := hd 4 (by kernel_rfl)
                  clear hd
                  go_wp2
                  first | exact ⟨rfl, rfl, rfl, Below.refl _ _⟩ | exact ⟨rfl, rfl, e4, Below.refl _ _⟩ | exact ⟨rfl, rfl, e6, Below.refl _ _⟩ | exact ⟨rfl, rfl, e5, Below.refl _ _⟩
                -- 8: Op.load 32 t91
                · simp only [Act.put, List.setIfInBounds_toArray, List.set_cons_zero, List.set_cons_succ, Nat.reduceAdd]
                  have e7 : vs 7 = .pointer (some ⟨gr, k, none⟩) := hd 7 (by kernel_rfl)
                  have e4 : vs 4 = .bool true := hd 4 (by kernel_rfl)
                  have r1 := HC1.out wk (undrew hbk)
                  clear hd
                  go_wp2
                  first | exact ⟨rfl, rfl, rfl, Below.refl _ _⟩ | exact ⟨rfl, rfl, e4, Below.refl _ _⟩ | exact ⟨rfl, rfl, e7, Below.refl _ _⟩
                -- 9: Op.convert 32 9 t92
                · simp only [Act.put, List.setIfInBounds_toArray, List.set_cons_zero, List.set_cons_succ, Nat.reduceAdd]
                  have e8 : vs 8 = .slice (some ⟨gi, 0, none⟩) 64 ci := hd 8 (by kernel_rfl)
                  have e4 : vs 4 = .bool true := hd 4 (by kernel_rfl)
                  have s1 := HC2.out wk (undrew hbk)
                  clear hd
                  go_wp2
                  first | exact ⟨rfl, rfl, rfl, Below.refl _ _⟩ | exact ⟨rfl, rfl, e4, Below.refl _ _⟩ | exact ⟨rfl, rfl, e8, Below.refl _ _⟩
                -- 10: Op.move t15
                · simp only [Act.put, List.setIfInBounds_toArray, List.set_cons_zero, List.set_cons_succ, Nat.reduceAdd]
                  have e4 : vs 4 = .bool true := hd 4 (by kernel_rfl)
                  clear hd
                  go_wp2
                  first | exact ⟨rfl, rfl, rfl, Below.refl _ _⟩ | exact ⟨rfl, rfl, e4, Below.refl _ _⟩
                -- 11: Op.binOp BinOp.add 3 (const (10:i64)) t94 3
                · simp only [Act.put, List.setIfInBounds_toArray, List.set_cons_zero, List.set_cons_succ, Nat.reduceAdd]
                  have e10 : vs 10 = .int .i64 (k : Int) := hd 10 (by kernel_rfl)
                  have e4 : vs 4 = .bool true := hd 4 (by kernel_rfl)
                  clear hd
                  go_wp2
                  first | exact ⟨rfl, rfl, rfl, Below.refl _ _⟩ | exact ⟨rfl, rfl, e4, Below.refl _ _⟩ | exact ⟨rfl, rfl, e10, Below.refl _ _⟩
                -- 12: Op.convert 3 5 t95
                · simp only [Act.put, List.setIfInBounds_toArray, List.set_cons_zero, List.set_cons_succ, Nat.reduceAdd]
                  have e11 : vs 11 = .int .i64 (10 + (k : Int)) := hd 11 (by kernel_rfl)
                  have e4 : vs 4 = .bool true := hd 4 (by kernel_rfl)
                  clear hd
                  go_wp2
                  first | exact ⟨rfl, rfl, rfl, Below.refl _ _⟩ | exact ⟨rfl, rfl, e4, Below.refl _ _⟩ | exact ⟨rfl, rfl, e11, Below.refl _ _⟩
                -- 13: Op.call { value (Operand.func 9), args := #[t96], argTypes := #[5] }
                · simp only [Act.put, List.setIfInBounds_toArray, List.set_cons_zero, List.set_cons_succ, Nat.reduceAdd]
                  have e12 : vs 12 = .int .u8 (10 + (k : Int)) := hd 12 (by kernel_rfl)
                  have e4 : vs 4 = .bool true := hd 4 (by kernel_rfl)
                  clear hd
                  go_wp2_with fail
                  refine (filled_at x _ HXB2.out wk).mono ?_
                  rintro e w' ⟨rfl, hbx, hbe⟩
                  go_wp2
                  exact ⟨rfl, rfl, ⟨_, rfl, hbx⟩, hbe⟩
                -- 14: Op.convert 32 9 t97
                · simp only [Act.put, List.setIfInBounds_toArray, List.set_cons_zero, List.set_cons_succ, Nat.reduceAdd]
                  obtain ⟨g13, e13, hq13⟩ := (show (FullRes x) (vs 13) wk from hd 13 (by kernel_rfl))
                  have e4 : vs 4 = .bool true := hd 4 (by kernel_rfl)
                  have s1 := conv_str 64 64 (fullL_len x).symm (bytes_blk hq13 (take_byts _))
                  clear hd
                  go_wp2
                  first | exact ⟨rfl, rfl, rfl, Below.refl _ _⟩ | exact ⟨rfl, rfl, e4, Below.refl _ _⟩
                -- 15: Op.binOp BinOp.neq 9 t93 t98 9
                · simp only [Act.put, List.setIfInBounds_toArray, List.set_cons_zero, List.set_cons_succ, Nat.reduceAdd]
                  have e9 : vs 9 = .string (strOf (fullL x)) := hd 9 (by kernel_rfl)
                  have e14 : vs 14 = .string (strOf (fullL x)) := hd 14 (by kernel_rfl)
                  have e4 : vs 4 = .bool true := hd 4 (by kernel_rfl)
                  have s1 : ((strOf (fullL x)).toList == (strOf (fullL x)).toList) = true := by simp
                  clear hd
                  go_wp2
                  first | exact ⟨rfl, rfl, rfl, Below.refl _ _⟩ | exact ⟨rfl, rfl, e4, Below.refl _ _⟩ | exact ⟨rfl, rfl, e14, Below.refl _ _⟩ | exact ⟨rfl, rfl, e9, Below.refl _ _⟩
                -- 16: Op.pick t88 t99 (const (Value.bool false))
                · simp only [Act.put, List.setIfInBounds_toArray, List.set_cons_zero, List.set_cons_succ, Nat.reduceAdd]
                  have e4 : vs 4 = .bool true := hd 4 (by kernel_rfl)
                  have e15 : vs 15 = .bool false := hd 15 (by kernel_rfl)
                  clear hd
                  go_wp2
                  first | exact ⟨rfl, rfl, rfl, Below.refl _ _⟩ | exact ⟨rfl, rfl, e15, Below.refl _ _⟩ | exact ⟨rfl, rfl, e4, Below.refl _ _⟩
                intro vs wk hbk hd
                simp only [putAll, Act.put, List.setIfInBounds_toArray, List.set_cons_zero, List.set_cons_succ, Nat.reduceAdd]
                have e16 : vs 16 = .bool false := hd 16 (by decide)
                clear hd
                simp only [e16]
                clear e16
                have HBX2 := hide (HBX.out.trans ((undrew hbk).mono HBX.out.size))
                clear hbk
                go_wp2
                go_roundw
                case rel => exact ⟨k + 1, by omega, by go_num, HBX2.out⟩
                case measure => simp [intOf]; omega
            · have HD10 := hide (HD9.out.lift hbe)
              have HBE10 : Hid (Below W.heap.size W wr) := HB1.out.trans ((HBE9.out.trans (hbe.mono (by have := HBE9.out.size; have := HBQ.out; omega))).mono HWB.out)
              have hwt := waiting_any wr B g _ HD10.out
              rw [show ((tick SC).q.length : Int) = 0 by show (SC.q.length : Int) = 0; rw [HSC.out.2.2.2.1]; rfl] at hwt
              have HWT := hide hwt
              clear hbe hwt
              go_wp2_with fail
              refine (unhide HWT).mono ?_
              rintro e w10 ⟨rfl, rfl⟩
              go_wp2
              go_ret
              exact ⟨rfl, HBE10.out⟩

set_option maxRecDepth 100000 in
set_option maxHeartbeats 400000 in
theorem devKeeps_no (x0 x1 x2 x3 torn P part : Int) (A : Option Addr) (n c : Nat) (W : World) (hn : 300 < n) :
    Calls Try.prog 3 #[.agg #[.int .i64 x0, .int .i64 x1, .int .i64 x2, .int .i64 x3], .agg #[.slice A n c, .int .i64 torn, .int .i64 P], .int .i64 part] W fun e W' => e = .returned (.bool true) ∧ Below W.heap.size W W' := by
  have HAW := hide (fun X => awake13 X)
  have t1 : decide ((n : Int) > 300) = true := decide_eq_true (by omega)
  go_enter Try.func3, Try.ntmps3
  go_wp2_with fail
  refine (HAW.out _).mono ?_
  rintro e w1 ⟨rfl, hbe⟩
  have HB1 : Hid (Below W.heap.size W w1) := (((Below.refl _ _).alloc (Nat.le_refl _) _).alloc (by simp) _).trans (hbe.mono (by simp; omega))
  have HC : Hid (Blk w1 (W.heap.size + 1) 25 #[.slice A n c, .int .i64 torn, .int .i64 P]) := by
    have := Blk.new (W.alloc (.cells #[.int .i64 x0, .int .i64 x1, .int .i64 x2, .int .i64 x3] 22)) 25 #[.slice A n c, .int .i64 torn, .int .i64 P]
    rw [World.size_alloc] at this
    exact this.below hbe (by simp)
  have rc0 : w1.cell? ⟨W.heap.size + 1, 0, none⟩ = some (.slice A n c) := HC.out.cell 0
  clear hbe
  go_wp2_with fail
  refine (HAW.out _).mono ?_
  rintro e w2 ⟨rfl, hbe⟩
  have HB2 := hide (HB1.out.trans (hbe.mono HB1.out.size))
  clear hbe
  go_wp2
  go_ret
  exact ⟨rfl, HB2.out⟩
end Go.Proofs.Ytenhjnicadjbaaa
