/-
  icehouselaw13.DeviceOrder: for every input the call returns true and writes nothing that was there. No condition.
-/
import Derived.Test.YtenhjnicadjbaaaDevAwake
import Derived.Test.YtenhjnicadjbaaaRegionAny
namespace Go.Proofs.Ytenhjnicadjbaaa
open Go Go.RowKit

def OrdRel (wr : World) (B g gw : Nat) (wants : List UInt8) (c : Nat) : Prop := ∃ S, DevAt wr B g S ∧ Calm S ∧ S.kept.length = 8 ∧ S.now = wants.map fullL ∧ wants.length = 8 ∧ S.n ≤ c ∧ S.q.length ≤ c ∧ Blk wr gw 42 (byts wants).toArray
def FullRes (x : UInt8) (v : Value) (w : World) : Prop := ∃ g, v = .slice (some ⟨g, 0, none⟩) 64 64 ∧ Blk w g 5 (byts (fullL x)).toArray
theorem FullRes_stable (x : UInt8) : ∀ v w w', FullRes x v w → Below w.heap.size w w' → FullRes x v w' := fun _ _ _ ⟨g, e, h⟩ hb => ⟨g, e, h.below hb h.lt⟩
theorem filled_at (b : UInt8) (z : Int) (h : z = (b.toNat : Int)) (w : World) : Calls Try.prog 9 #[.int .u8 z] w fun e w' =>
    e = .returned (.slice (some ⟨w.heap.size, 0, none⟩) 64 64) ∧ Blk w' w.heap.size 5 (byts (fullL b)).toArray ∧ Below w.heap.size w w' := by
  subst h
  exact filled_any b w
theorem OrdRel.more {wr : World} {B g gw c c' : Nat} {wants : List UInt8} (h : OrdRel wr B g gw wants c) (hc : c ≤ c') : OrdRel wr B g gw wants c' := by
  obtain ⟨S, h1, h2, h3, h4, h5, h6, h7, h8⟩ := h
  exact ⟨S, h1, h2, h3, h4, h5, by omega, by omega, h8⟩

set_option maxRecDepth 100000 in
set_option maxHeartbeats 4000000 in
theorem devOrder_any (l : List UInt8) (A : Option Addr) (n c : Nat) (fl : Int) (W : World) (hn : n = l.length) (hl : l.length ≤ 60) (hA : BytesAt W W.heap.size A l) :
    Calls Try.prog 4 #[.slice A n c, .int .i64 fl] W fun e W' => e = .returned (.bool true) ∧ Below W.heap.size W W' := by
  subst hn
  have HA := hide hA
  have HAW := hide (awake13 W)
  clear hA
  go_enter Try.func4, Try.ntmps4
  go_wp2_with fail
  refine (unhide HAW).mono ?_
  rintro e w1 ⟨rfl, hbe⟩
  have HB1 := hide hbe
  clear hbe HAW
  go_wp2_with fail
  refine (new_any _ 8 (by omega) (by omega)).mono ?_
  rintro e w2 ⟨g, rfl, hd, hb⟩
  have HB2 := hide (HB1.out.trans (hb.mono HB1.out.size))
  have HS2 := hide hb.size
  have HD2 := hide hd
  have HSB := hide HB1.out.size
  clear hd hb
  generalize w1.heap.size = B at *
  go_wp2_with fail
  go_loopw [8] (fun v wr => ∃ (i : Nat) (wants : List UInt8), i ≤ l.length ∧ v = .int .i64 i ∧ OrdRel wr B g w2.heap.size wants (2 * i) ∧ Below W.heap.size W wr) (fun v _ => l.length - (intOf v).toNat)
  case atStart => exact ⟨0, List.replicate 8 0, Nat.zero_le _, rfl, ⟨newS 8, HD2.out.lift ((Below.refl _ _).alloc (Nat.le_refl _) _), ⟨rfl, rfl⟩, rfl, rfl, rfl, by decide, by decide, Blk.new _ _ _⟩, HB2.out.alloc HB2.out.size _⟩
  case round =>
    obtain ⟨i, wants, hi, rfl, ⟨S, hd, hcm, hkl, hnow, hwl, hn, hq, hw⟩, hbe⟩ := hrel
    have HD := hide hd
    have HCM := hide hcm
    have HKL := hide hkl
    have HNOW := hide hnow
    have HWL := hide hwl
    have HW := hide hw
    have HBE := hide hbe
    clear hd hcm hkl hnow hw hbe
    by_cases hlt : i < l.length
    · obtain ⟨ad, rfl, hp, q1⟩ := BytesAt.at_ HA.out hlt
      have r1 : wr.cell? (ad.add i) = _ := (HBE.out.cell (by rw [block_of_add]; exact hp)).trans q1
      have i1 : (0 : Int) ≤ (i : Int) := by omega
      have i2 : (i : Int) < (l.length : Int) := by omega
      have x1 : (0 : Int) ≤ (l[i].toNat : Int) := by omega
      have x2 : (l[i].toNat : Int) ≤ 255 := by have := UInt8.toNat_lt l[i]; omega
      have hk8 : l[i].toNat % 8 < 8 := Nat.mod_lt _ (by decide)
      have ek : (l[i].toNat : Int) % 8 = ((l[i].toNat % 8 : Nat) : Int) := by omega
      generalize l[i].toNat % 8 = k at *
      have HF := hide (filled_at (UInt8.ofNat (i + 1)) ((i : Int) + 1) (by rw [UInt8.toNat_ofNat']; omega) wr)
      have xb : ((UInt8.ofNat (i + 1)).toNat : Int) = (i : Int) + 1 := by rw [UInt8.toNat_ofNat']; omega
      have HXB := hide xb
      clear xb
      generalize UInt8.ofNat (i + 1) = b at *
      clear q1
      go_wp2_with fail
      refine (unhide HF).mono ?_
      rintro e w3 ⟨rfl, hbk, hb3⟩
      have HD3 := hide (HD.out.lift (hb3.trans ((Below.refl _ _).alloc hb3.size (.cells #[.slice (some ⟨wr.heap.size, 0, none⟩) 64 64] 32))))
      have HR3 := hide (rows_one (n := 64) (c := 64) hbk rfl (Nat.le_refl _))
      have HW3 := hide ((HW.out.below hb3 HW.out.lt).alloc (.cells #[.slice (some ⟨wr.heap.size, 0, none⟩) 64 64] 32))
      have HBE3 := hide ((HBE.out.trans (hb3.mono HBE.out.size)).alloc (Nat.le_trans HBE.out.size hb3.size) (.cells #[.slice (some ⟨wr.heap.size, 0, none⟩) 64 64] 32))
      clear hbk hb3 HF
      go_wp2_with fail
      refine (write_calm _ B g S HD3.out HCM.out (by omega) k [fullL b] _ 1 1 rfl (by rw [HKL.out]; show k + 1 ≤ 8; omega) (by simp; omega) (fun s hs => by rw [List.mem_singleton.1 hs]; exact fullL_len _) HR3.out).mono ?_
      rintro e w4 ⟨rfl, hd, hk⟩
      have HBE4 := hide (HBE3.out.trans (hk.1.mono HSB.out))
      have hw4 := hk.2 _ _ _ HW3.out (by decide) (by decide) (by decide)
      have hr4 := hw4.frozen k
      have hsz : (byts wants).toArray.size = 8 := by rw [List.size_toArray, byts_length]; exact hwl
      obtain ⟨ov, hov⟩ : ∃ ov, (byts wants).toArray[k]? = some ov := ⟨_, Array.getElem?_eq_getElem (by omega)⟩
      have hc4 := (hw4.cell k).trans hov
      have k1 : (0 : Int) ≤ (k : Int) := by omega
      have k2 : (k : Int) < 8 := by omega
      have HS5 : Hid (OrdRel (w4.setCell ⟨w2.heap.size, k, none⟩ (.int .u8 ((i : Int) + 1))) B g w2.heap.size (wants.set k b) (2 * i + 1)) := by
        refine ⟨writeS (tick S) k [fullL b], ?_, HCM.out, HKL.out, ?_, by rw [List.length_set]; exact hwl, ?_, ?_, ?_⟩
        · exact hd.far hw4 (by decide) (by decide) (by decide) (by decide) _
        · show S.now.set k (fullL b) = _
          rw [HNOW.out, List.map_set]
        · show S.n + 1 ≤ _
          omega
        · show (S.q ++ [_]).length ≤ _
          rw [List.length_append]
          show S.q.length + 1 ≤ _
          omega
        · have := hw4.set_ k (.int .u8 ((i : Int) + 1))
          rw [← HXB.out, byts_sets] at this
          rw [← HXB.out]
          exact this
      have HBE5 : Hid (Below W.heap.size W (w4.setCell ⟨w2.heap.size, k, none⟩ (.int .u8 ((i : Int) + 1)))) := HBE4.out.setCell (p := ⟨w2.heap.size, k, none⟩) HB2.out.size _
      clear hd hk hw4 hsz hov HBE4 HBE3 HW3 HR3 HD3 HW HD HNOW HCM HKL
      by_cases hfl : (i : Int) = fl
      · subst hfl
        go_wp2_with fail
        obtain ⟨S5, hd5, hcm5, hkl5, hnow5, hwl5, hn5, hq5, hw5⟩ := HS5.out
        have HKL5 := hide hkl5
        have HNOW5 := hide hnow5
        have HWL5 := hide hwl5
        refine (flush_calm _ B g S5 hd5 hcm5 (by omega)).mono ?_
        rintro e w6 ⟨rfl, hd, hk⟩
        have HBE6 := hide (HBE5.out.trans (hk.1.mono HSB.out))
        have HS6 : Hid (OrdRel w6 B g w2.heap.size (wants.set k b) (2 * i + 2)) := ⟨_, hd, hcm5, by show (settleK _ _ _).length = 8; rw [settleK_len]; exact HKL5.out, HNOW5.out, HWL5.out, by show S5.n + 1 ≤ _; omega, Nat.zero_le _, hk.2 _ _ _ hw5 (by decide) (by decide) (by decide)⟩
        clear hd hk hd5 hkl5 hnow5 hwl5 hw5 HS5 HBE5
        go_wp2
        go_roundw
        case rel => exact ⟨i + 1, wants.set k b, by omega, by go_num, HS6.out.more (by omega), HBE6.out⟩
        case measure => simp [intOf]; omega
      · have tb : ((i : Int) == fl) = false := by simpa using hfl
        clear hfl
        go_wp2
        go_roundw
        case rel => exact ⟨i + 1, wants.set k b, by omega, by go_num, HS5.out.more (by omega), HBE5.out⟩
        case measure => simp [intOf]; omega
    · have HS : Hid (OrdRel wr B g w2.heap.size wants 120) := (show OrdRel wr B g w2.heap.size wants (2 * i) from ⟨S, HD.out, HCM.out, HKL.out, HNOW.out, HWL.out, hn, hq, HW.out⟩).more (by omega)
      clear hi hn hq hwl HD HCM HKL HNOW HWL HW HD2 HB1 HA
      go_wp2_with fail
      clear hlt
      go_loopw [10] (fun v wr => ∃ m : Nat, m ≤ 2 ∧ v = .int .i64 m ∧ OrdRel wr B g w2.heap.size wants (120 + 2 * m) ∧ Below W.heap.size W wr) (fun v _ => 2 - (intOf v).toNat)
      case atStart => exact ⟨0, Nat.zero_le _, rfl, HS.out, HBE.out⟩
      case round =>
        obtain ⟨m, hm, rfl, ⟨S, hd, hcm, hkl, hnow, hwl, hn, hq, hw⟩, hbe⟩ := hrel
        have HD := hide hd
        have HCM := hide hcm
        have HKL := hide hkl
        have HNOW := hide hnow
        have HWL := hide hwl
        have HW := hide hw
        have HBE2 := hide hbe
        clear hd hcm hkl hnow hwl hw hbe
        by_cases hlt : m < 2
        · go_wp2_with fail
          refine (read_calm _ B g S HD.out HCM.out (by omega) 0 8 (by rw [HKL.out]; omega)).mono ?_
          rintro e w3 ⟨A9, c9, rfl, hr, hd, hk⟩
          have HD3 := hide hd
          have HBE3 := hide (HBE2.out.trans (hk.1.mono HSB.out))
          have HW3 := hide (hk.2 _ _ _ HW.out (by decide) (by decide) (by decide))
          have HR3 : Hid (RowsBlk w3 A9 (wants.map fullL)) := by
            rw [HNOW.out, List.drop_zero, List.take_of_length_le (by rw [List.length_map, HWL.out]; omega)] at hr
            exact hr
          clear hr hd hk HD HW HBE2
          go_wp2_with fail
          go_loopw [13] (fun v wr => ∃ k : Nat, k ≤ 8 ∧ v = .int .i64 k ∧ Below w3.heap.size w3 wr) (fun v _ => 8 - (intOf v).toNat)
          case atStart => exact ⟨0, Nat.zero_le _, rfl, Below.refl _ _⟩
          case round =>
            obtain ⟨k, hk, rfl, hbe⟩ := hrel
            have HBX := hide hbe
            by_cases hlt : k < 8
            · have hkw : k < wants.length := by rw [HWL.out]; exact hlt
              obtain ⟨gr, cur, rfl, hbr, hcr⟩ := (HR3.out.below hbe) (by rw [List.length_map, HWL.out]; omega)
              obtain ⟨gi, ci, cu, h1, h2, h3, h4⟩ := hcr k (by rw [List.length_map]; exact hkw)
              have hx : (wants.map fullL)[k]'(by rw [List.length_map]; exact hkw) = fullL wants[k] := List.getElem_map _
              rw [hx] at h1 h2 h4
              rw [fullL_len] at h1 h2
              have HC1 : Hid (∀ X, Below wr.heap.size wr X → X.cell? ⟨gr, k, none⟩ = some (.slice (some ⟨gi, 0, none⟩) 64 ci)) := fun X hX => ((hbr.below hX hbr.lt).cell k).trans h1
              have HC2 : Hid (∀ X, Below wr.heap.size wr X → (convert 32 9 (.slice (some ⟨gi, 0, none⟩) 64 ci)).run Try.prog X = .ok (.string (strOf (fullL wants[k]))) X) := fun X hX => conv_str 64 ci (fullL_len _).symm (bytes_blk (h3.below hX h3.lt) h4)
              have HC3 : Hid (∀ X, Below wr.heap.size wr X → X.cell? ⟨w2.heap.size, k, none⟩ = some (.int .u8 (wants[k].toNat : Int))) := fun X hX => by
                have hb' := (HW3.out.below hbe HW3.out.lt).below hX (HW3.out.below hbe HW3.out.lt).lt
                rw [hb'.cell, List.getElem?_toArray]
                exact byts_get hkw
              clear hbr hcr h1 h2 h3 h4 hx hbe
              generalize wants[k] = x at *
              have i1 : (0 : Int) ≤ (k : Int) := by omega
              have i2 : (k : Int) < 8 := by omega
              go_wp2_with fail
              refine wp_region_assert (listV [isV (.slice (some ⟨gr, 0, none⟩) 8 c9), isV (.int .i64 (k : Int)), isV (.pointer (some ⟨gr, k, none⟩)), isV (.slice (some ⟨gi, 0, none⟩) 64 ci), isV (.string (strOf (fullL x))), isV (.int .i64 (k : Int)), isV (.pointer (some ⟨w2.heap.size, k, none⟩)), isV (.int .u8 (x.toNat : Int)), FullRes x, isV (.string (strOf (fullL x))), isV (.bool false)]) (by kernel_rfl) (by kernel_rfl) (listV_stable ?_) ?_ ?_
              · exact ⟨isV_stable _, isV_stable _, isV_stable _, isV_stable _, isV_stable _, isV_stable _, isV_stable _, isV_stable _, FullRes_stable _, isV_stable _, isV_stable _, trivial⟩
              refine ⟨fun vs wk hbk hd => ?_, fun vs wk hbk hd => ?_, fun vs wk hbk hd => ?_, fun vs wk hbk hd => ?_, fun vs wk hbk hd => ?_, fun vs wk hbk hd => ?_, fun vs wk hbk hd => ?_, fun vs wk hbk hd => ?_, fun vs wk hbk hd => ?_, fun vs wk hbk hd => ?_, fun vs wk hbk hd => ?_, trivial⟩
              -- 0: Op.move t11
              · clear hd
                go_wp2
                exact ⟨rfl, rfl, rfl, Below.refl _ _⟩
              -- 1: Op.move t13
              · simp only [Act.put, List.setIfInBounds_toArray, List.set_cons_zero, List.set_cons_succ]
                clear hd
                go_wp2
                exact ⟨rfl, rfl, rfl, Below.refl _ _⟩
              -- 2: Op.indexAddr 37 t79 t80
              · simp only [Act.put, List.setIfInBounds_toArray, List.set_cons_zero, List.set_cons_succ, Nat.reduceAdd]
                have e0 : vs 0 = .slice (some ⟨gr, 0, none⟩) 8 c9 := hd 0 (by kernel_rfl)
                have e1 : vs 1 = .int .i64 (k : Int) := hd 1 (by kernel_rfl)
                clear hd
                go_wp2
                first | exact ⟨rfl, rfl, rfl, Below.refl _ _⟩ | exact ⟨rfl, rfl, e1, Below.refl _ _⟩ | exact ⟨rfl, rfl, e0, Below.refl _ _⟩
              -- 3: Op.load 32 t81
              · simp only [Act.put, List.setIfInBounds_toArray, List.set_cons_zero, List.set_cons_succ, Nat.reduceAdd]
                have e2 : vs 2 = .pointer (some ⟨gr, k, none⟩) := hd 2 (by kernel_rfl)
                have r1 := HC1.out wk (undrew hbk)
                clear hd
                go_wp2
                first | exact ⟨rfl, rfl, rfl, Below.refl _ _⟩ | exact ⟨rfl, rfl, e2, Below.refl _ _⟩
              -- 4: Op.convert 32 9 t82
              · simp only [Act.put, List.setIfInBounds_toArray, List.set_cons_zero, List.set_cons_succ, Nat.reduceAdd]
                have e3 : vs 3 = .slice (some ⟨gi, 0, none⟩) 64 ci := hd 3 (by kernel_rfl)
                have s1 := HC2.out wk (undrew hbk)
                clear hd
                go_wp2
                first | exact ⟨rfl, rfl, rfl, Below.refl _ _⟩ | exact ⟨rfl, rfl, e3, Below.refl _ _⟩
              -- 5: Op.move t13
              · simp only [Act.put, List.setIfInBounds_toArray, List.set_cons_zero, List.set_cons_succ, Nat.reduceAdd]
                clear hd
                go_wp2
                exact ⟨rfl, rfl, rfl, Below.refl _ _⟩
              -- 6: Op.indexAddr 42 t7 t84
              · simp only [Act.put, List.setIfInBounds_toArray, List.set_cons_zero, List.set_cons_succ, Nat.reduceAdd]
                have e5 : vs 5 = .int .i64 (k : Int) := hd 5 (by kernel_rfl)
                clear hd
                go_wp2
                first | exact ⟨rfl, rfl, rfl, Below.refl _ _⟩ | exact ⟨rfl, rfl, e5, Below.refl _ _⟩
              -- 7: Op.load 5 t85
              · simp only [Act.put, List.setIfInBounds_toArray, List.set_cons_zero, List.set_cons_succ, Nat.reduceAdd]
                have e6 : vs 6 = .pointer (some ⟨w2.heap.size, k, none⟩) := hd 6 (by kernel_rfl)
                have r1 := HC3.out wk (undrew hbk)
                clear hd
                go_wp2
                first | exact ⟨rfl, rfl, rfl, Below.refl _ _⟩ | exact ⟨rfl, rfl, e6, Below.refl _ _⟩
              -- 8: Op.call { value (Operand.func 9), args := #[t86], argTypes := #[5] }
              · simp only [Act.put, List.setIfInBounds_toArray, List.set_cons_zero, List.set_cons_succ, Nat.reduceAdd]
                have e7 : vs 7 = .int .u8 (x.toNat : Int) := hd 7 (by kernel_rfl)
                clear hd
                go_wp2_with fail
                refine (filled_at x _ rfl wk).mono ?_
                rintro e w' ⟨rfl, hbx, hbe⟩
                go_wp2
                exact ⟨rfl, rfl, ⟨_, rfl, hbx⟩, hbe⟩
              -- 9: Op.convert 32 9 t87
              · simp only [Act.put, List.setIfInBounds_toArray, List.set_cons_zero, List.set_cons_succ, Nat.reduceAdd]
                obtain ⟨g8, e8, hq8⟩ := (show (FullRes x) (vs 8) wk from hd 8 (by kernel_rfl))
                have s1 := conv_str 64 64 (fullL_len x).symm (bytes_blk hq8 (take_byts _))
                clear hd
                go_wp2
                exact ⟨rfl, rfl, rfl, Below.refl _ _⟩
              -- 10: Op.binOp BinOp.neq 9 t83 t88 9
              · simp only [Act.put, List.setIfInBounds_toArray, List.set_cons_zero, List.set_cons_succ, Nat.reduceAdd]
                have e4 : vs 4 = .string (strOf (fullL x)) := hd 4 (by kernel_rfl)
                have e9 : vs 9 = .string (strOf (fullL x)) := hd 9 (by kernel_rfl)
                have s1 : ((strOf (fullL x)).toList == (strOf (fullL x)).toList) = true := by simp
                clear hd
                go_wp2
                first | exact ⟨rfl, rfl, rfl, Below.refl _ _⟩ | exact ⟨rfl, rfl, e9, Below.refl _ _⟩ | exact ⟨rfl, rfl, e4, Below.refl _ _⟩
              intro vs wk hbk hd
              simp only [putAll, Act.put, List.setIfInBounds_toArray, List.set_cons_zero, List.set_cons_succ, Nat.reduceAdd]
              have e10 : vs 10 = .bool false := hd 10 (by decide)
              clear hd
              simp only [e10]
              clear e10
              have HBX2 := hide (HBX.out.trans ((undrew hbk).mono HBX.out.size))
              clear hbk
              go_wp2
              go_roundw
              case rel => exact ⟨k + 1, by omega, by go_num, HBX2.out⟩
              case measure => simp [intOf]; omega
            · have HD4 := hide (HD3.out.lift hbe)
              have HW4 := hide (HW3.out.below hbe HW3.out.lt)
              have HBE4 := hide (HBE3.out.trans (hbe.mono HBE3.out.size))
              clear hbe HD3 HW3 HBE3
              go_wp2_with fail
              refine (flush_calm _ B g (tick S) HD4.out HCM.out (by show S.n + 1 < _; omega)).mono ?_
              rintro e w5 ⟨rfl, hd, hk5⟩
              have HD5 := hide hd
              have HW5 := hide (hk5.2 _ _ _ HW4.out (by decide) (by decide) (by decide))
              have HBE5 := hide (HBE4.out.trans (hk5.1.mono HSB.out))
              clear hd hk5 HD4 HW4 HBE4
              go_wp2_with fail
              have hwt := waiting_any w5 B g _ HD5.out
              rw [show ((settleS (tick (tick S))).q.length : Int) = 0 from rfl] at hwt
              refine hwt.mono ?_
              rintro e w6 ⟨rfl, rfl⟩
              have HS5 : Hid (OrdRel w5 B g w2.heap.size wants (120 + 2 * (m + 1))) := ⟨_, HD5.out, HCM.out, by show (settleK _ _ _).length = 8; rw [settleK_len]; exact HKL.out, HNOW.out, HWL.out, by show S.n + 1 + 1 ≤ _; omega, Nat.zero_le _, HW5.out⟩
              clear HD5 HW5 hwt
              go_wp2
              go_roundw
              case rel => exact ⟨m + 1, by omega, by go_num, HS5.out, HBE5.out⟩
              case measure => simp [intOf]; omega
        · have h2 : m = 2 := by omega
          clear hlt
          subst h2
          go_wp2
          go_ret
          exact ⟨rfl, HBE2.out⟩

set_option maxRecDepth 100000 in
set_option maxHeartbeats 400000 in
theorem devOrder_no (A : Option Addr) (n c : Nat) (fl : Int) (W : World) (hn : 60 < n) :
    Calls Try.prog 4 #[.slice A n c, .int .i64 fl] W fun e W' => e = .returned (.bool true) ∧ Below W.heap.size W W' := by
  have HAW := hide (fun X => awake13 X)
  have t1 : decide ((n : Int) > 60) = true := decide_eq_true (by omega)
  go_enter Try.func4, Try.ntmps4
  go_wp2_with fail
  refine (HAW.out _).mono ?_
  rintro e w1 ⟨rfl, hbe⟩
  have HB1 := hide hbe
  clear hbe
  go_wp2_with fail
  refine (HAW.out _).mono ?_
  rintro e w2 ⟨rfl, hbe⟩
  have HB2 := hide (HB1.out.trans (hbe.mono HB1.out.size))
  clear hbe
  go_wp2
  go_ret
  exact ⟨rfl, HB2.out⟩
end Go.Proofs.Ytenhjnicadjbaaa
