/-
  The walk of icehouselaw12.CrcAdds. Conditions: the arguments read as slices of bytes; the table half reads as the text lays it.
-/
import Derived.Test.YtenhjnicadjbaaaDoorCrcAwake
import Derived.Test.YtenhjnicadjbaaaDoorRegionAny
import Derived.BigRegion
namespace Go.Proofs.YtenhjnicadjbaaaDoor
open Go Go.RowKit

theorem u8x {a b : UInt8} : bits .xor .u8 (a.toNat : Int) (b.toNat : Int) = (((a ^^^ b).toNat : Nat) : Int) := by
  rw [u8_xor_nat _ _ (by have := a.toNat_lt; omega) (by have := b.toNat_lt; omega), UInt8.toNat_xor]

set_option maxRecDepth 100000 in
set_option maxHeartbeats 1000000 in
theorem crcAdds_yes (a b d : List UInt8) (A1 A2 A3 : Option Addr) (c1 c2 c3 : Nat) (n1 n2 n3 n : Nat) (w : World) (hn1 : n1 = a.length) (hn2 : n2 = b.length) (hn3 : n3 = d.length) (h1 : a.length ≤ 500) (h2 : b.length ≤ 500) (h3 : d.length ≤ 500)
    (hc1 : a.length ≤ c1) (hc2 : b.length ≤ c2) (hc3 : d.length ≤ c3) (hA1 : BytesAt w w.heap.size A1 a) (hA2 : BytesAt w w.heap.size A2 b) (hA3 : BytesAt w w.heap.size A3 d) (hh : HalfAt w)
    (hn : n = min (min a.length b.length) d.length) :
    Calls Tryd.prog 4 #[.slice A1 n1 c1, .slice A2 n2 c2, .slice A3 n3 c3] w fun e w' => e = .returned (.bool true) ∧ Below w.heap.size w w' := by
  subst hn1 hn2 hn3
  have HH := hide hh
  have HA1 := hide hA1
  have HA2 := hide hA2
  have HA3 := hide hA3
  have na : n ≤ a.length := by omega
  have nb : n ≤ b.length := by omega
  have nd : n ≤ d.length := by omega
  have hmin : ∀ ts t (W : World), (Builtin.min_ ts t #[.int .i64 (a.length : Int), .int .i64 (b.length : Int), .int .i64 (d.length : Int)]).run Tryd.prog W = .ok (.int .i64 (n : Int)) W := fun ts t W => by
    rw [run_min_int3]
    congr 2
    split <;> split at * <;> omega
  have hmk : ∀ W : World, (Instr.makeSlice 23 (.int .i64 (n : Int)) (.int .i64 (n : Int))).run Tryd.prog W = .ok (.slice (some ⟨W.heap.size, 0, none⟩) n n) (W.alloc (.cells (madeCells #[.int .u8 0] n) 5)) := fun W => by
    obtain ⟨i0, hi0, hz0, hz1, hz2⟩ := info_parts info_u8
    have := run_make_rowN (P := Tryd.prog) 23 5 i0 _ Tryd.underlying23 hi0 hz0 .i64 .i64 n n (Nat.le_refl _) (by rw [hz2]; omega) (by omega) W
    rw [this, hz1, Nat.mul_one]
    rfl
  have ha5 : decide ((500 : Int) < (a.length : Int)) = false := by simp; omega
  have hb5 : decide ((500 : Int) < (b.length : Int)) = false := by simp; omega
  have hd5 : decide ((500 : Int) < (d.length : Int)) = false := by simp; omega
  clear hh hA1 hA2 hA3 hn
  go_enter Tryd.func4, Tryd.ntmps4
  go_wp2_with fail
  refine (awake12 w (unhide HH)).mono ?_
  rintro e w1 ⟨rfl, hbe⟩
  have HE := hide hbe
  clear hbe
  go_wp2_with fail
  clear hmin hmk
  have HR : Hid ((w1.alloc (.cells (madeCells #[.int .u8 0] n) 5)).rowIs w1.heap.size 5 n (fun j => .int .u8 ((if j < 0 then xor3At a b d j else 0 : UInt8).toNat : Int))) := World.rowIs_made _ _ _ _
  go_loopw [9] (fun i wr => ∃ k : Nat, k ≤ n ∧ i = .int .i64 k ∧ wr.rowIs w1.heap.size 5 n (fun j => .int .u8 ((if j < k then xor3At a b d j else 0 : UInt8).toNat : Int)) ∧ Below w1.heap.size w1 wr) (fun i _ => n - (intOf i).toNat)
  case atStart => exact ⟨0, Nat.zero_le _, rfl, HR.out, Below.alloc (Below.refl _ _) (Nat.le_refl _) _⟩
  case round =>
    obtain ⟨k, hk, rfl, hrow, hbe⟩ := hrel
    have HB := hide hbe
    have HRW := hide hrow
    by_cases hlt : k < n
    · obtain ⟨p1, rfl, hp1, q1⟩ := BytesAt.at_ (unhide HA1) (k := k) (by omega)
      obtain ⟨p2, rfl, hp2, q2⟩ := BytesAt.at_ (unhide HA2) (k := k) (by omega)
      obtain ⟨p3, rfl, hp3, q3⟩ := BytesAt.at_ (unhide HA3) (k := k) (by omega)
      have hbw := HE.out.trans (hbe.mono HE.out.size)
      have r1 : wr.cell? (p1.add k) = _ := (hbw.cell (by rw [block_of_add]; exact hp1)).trans q1
      have r2 : wr.cell? (p2.add k) = _ := (hbw.cell (by rw [block_of_add]; exact hp2)).trans q2
      have r3 : wr.cell? (p3.add k) = _ := (hbw.cell (by rw [block_of_add]; exact hp3)).trans q3
      have r4 := hrow.cell hlt
      have r5 := hrow.frozen k
      have x1 := u8x (a := a[k]) (b := b[k])
      have x2 := u8x (a := a[k] ^^^ b[k]) (b := d[k])
      have HX : Hid (a[k] ^^^ b[k] ^^^ d[k] = xor3At a b d k) := by
        show _ = _
        unfold xor3At
        simp [List.getD_eq_getElem?_getD, List.getElem?_eq_getElem (show k < a.length by omega), List.getElem?_eq_getElem (show k < b.length by omega), List.getElem?_eq_getElem (show k < d.length by omega)]
      rw [if_neg (by omega)] at r4
      clear hrow hbe hbw q1 q2 q3
      generalize a[k] ^^^ b[k] ^^^ d[k] = y at *
      generalize a[k] ^^^ b[k] = y' at *
      generalize a[k] = ya at *
      generalize b[k] = yb at *
      generalize d[k] = yd at *
      go_wp2_with fail
      go_region
      all_goals
        go_wp2
        refine ⟨⟨k + 1, by omega, by go_num, ?_, (HB.out.setCell (p := ⟨w1.heap.size, k, none⟩) (Nat.le_refl _) _).drew⟩, by simp [intOf]; omega⟩
        refine ((unhide HRW).set k (.int .u8 (y.toNat : Int))).congr fun i hi => ?_
        by_cases e : i = k
        · subst e
          rw [if_pos rfl, if_pos (by omega), HX.out]
        · rw [if_neg e]
          by_cases e2 : i < k
          · rw [if_pos e2, if_pos (by omega)]
          · rw [if_neg e2, if_neg (by omega)]
    · obtain rfl : k = n := by omega
      have HD : Hid (BytesAt wr wr.heap.size (some ⟨w1.heap.size, 0, none⟩) (xor3 a b d k)) := by
        refine ⟨by simp [byts], fun _ => ⟨_, rfl, hrow.lt, fun j u hu => ?_⟩⟩
        have hj : j < k := by simpa [byts, xor3] using (List.getElem?_eq_some_iff.1 hu).1
        rw [add_flat, Nat.zero_add, hrow.cell hj, ← hu]
        simp [byts, xor3, hj]
      clear hrow hbe HRW
      have hbw := HE.out.trans (HB.out.mono HE.out.size)
      have sums : ∀ (A : Option Addr) (l : List UInt8) (m cc : Nat), l.length ≤ 500 → m = l.length → l.length ≤ cc → BytesAt wr wr.heap.size A l → ∀ (W : World) (g : Nat), Below wr.drew.heap.size wr.drew W → g < W.heap.size → W.cell? ⟨g, 0, none⟩ = some (.slice A m cc) →
          Calls Tryd.prog 15 #[.slice (some ⟨g, 0, none⟩) 1 1] W fun e w' => e = .returned (.int .u32 (crcN l : Nat)) ∧ W = w' := fun A l m cc hl hm hcc hA W g hW hg hc => by
        have := sum_any [l] (some ⟨g, 0, none⟩) 1 1 W.heap.size W rfl (by simp) (fun x hx => by rw [List.mem_singleton.1 hx]; omega)
          (RowsAt.one_cell hg hm hcc hc (BytesAt.lift (B := wr.heap.size) hA ⟨hW.os, hW.tape, hW.output, hW.size, hW.block⟩ hW.size)) ((unhide HH).below (hbw.trans (Below.mono ⟨hW.os, hW.tape, hW.output, hW.size, hW.block⟩ hbw.size)))
        simpa using this
      have lt1 : (a.take k).length = k := by rw [List.length_take]; omega
      have lt2 : (b.take k).length = k := by rw [List.length_take]; omega
      have lt3 : (d.take k).length = k := by rw [List.length_take]; omega
      have lt4 : (xor3 a b d k).length = k := by simp [xor3]
      have SA := hide (sums A1 (a.take k) k c1 (by omega) lt1.symm (by omega) ((BytesAt.take (unhide HA1) k).lift hbw hbw.size))
      have SB := hide (sums A2 (b.take k) k c2 (by omega) lt2.symm (by omega) ((BytesAt.take (unhide HA2) k).lift hbw hbw.size))
      have SD := hide (sums A3 (d.take k) k c3 (by omega) lt3.symm (by omega) ((BytesAt.take (unhide HA3) k).lift hbw hbw.size))
      have SE := hide (sums (some ⟨w1.heap.size, 0, none⟩) (xor3 a b d k) k k (by omega) lt4.symm (by omega) HD.out)
      have hx1 := u32x (crcN_lt (a.take k)) (crcN_lt (b.take k))
      have hx2 := u32x (xor_lt32 (crcN_lt (a.take k)) (crcN_lt (b.take k))) (crcN_lt (d.take k))
      rw [crc_three a b d k na nb nd] at hx2
      have hs1 := fun W => cut_front8 A1 a.length c1 k (by omega) W
      have hs2 := fun W => cut_front8 A2 b.length c2 k (by omega) W
      have hs3 := fun W => cut_front8 A3 d.length c3 k (by omega) W
      have HW := hide hbw
      clear sums lt1 lt2 lt3 lt4 hbw
      generalize crcN (xor3 a b d k) = xe at *
      generalize crcN (a.take k) ^^^ crcN (b.take k) = xab at *
      generalize crcN (a.take k) = xa at *
      generalize crcN (b.take k) = xb at *
      generalize crcN (d.take k) = xd at *
      go_wp2_with fail
      refine wp_region_assert (listV [isV (.slice A1 a.length c1), isV (.int .i64 (k : Int)), isV (.slice A1 k c1), OneRow (A1) (k) (c1), isV (.int .u32 (xa : Int)), isV (.slice A2 b.length c2), isV (.int .i64 (k : Int)), isV (.slice A2 k c2), OneRow (A2) (k) (c2), isV (.int .u32 (xb : Int)), isV (.int .u32 (xab : Int)), isV (.slice A3 d.length c3), isV (.int .i64 (k : Int)), isV (.slice A3 k c3), OneRow (A3) (k) (c3), isV (.int .u32 (xd : Int)), isV (.int .u32 (xe : Int)), isV (.slice (some ⟨w1.heap.size, 0, none⟩) k k), OneRow (some ⟨w1.heap.size, 0, none⟩) (k) (k), isV (.int .u32 (xe : Int)), isV (.bool true), isV (.bool true)]) (by kernel_rfl) (by kernel_rfl) (listV_stable ?_) ?_ ?_
      · exact ⟨isV_stable _, isV_stable _, isV_stable _, OneRow_stable _ _ _, isV_stable _, isV_stable _, isV_stable _, isV_stable _, OneRow_stable _ _ _, isV_stable _, isV_stable _, isV_stable _, isV_stable _, isV_stable _, OneRow_stable _ _ _, isV_stable _, isV_stable _, isV_stable _, OneRow_stable _ _ _, isV_stable _, isV_stable _, isV_stable _, trivial⟩
      refine ⟨fun vs w2 hb2 hd => ?_, fun vs w2 hb2 hd => ?_, fun vs w2 hb2 hd => ?_, fun vs w2 hb2 hd => ?_, fun vs w2 hb2 hd => ?_, fun vs w2 hb2 hd => ?_, fun vs w2 hb2 hd => ?_, fun vs w2 hb2 hd => ?_, fun vs w2 hb2 hd => ?_, fun vs w2 hb2 hd => ?_, fun vs w2 hb2 hd => ?_, fun vs w2 hb2 hd => ?_, fun vs w2 hb2 hd => ?_, fun vs w2 hb2 hd => ?_, fun vs w2 hb2 hd => ?_, fun vs w2 hb2 hd => ?_, fun vs w2 hb2 hd => ?_, fun vs w2 hb2 hd => ?_, fun vs w2 hb2 hd => ?_, fun vs w2 hb2 hd => ?_, fun vs w2 hb2 hd => ?_, fun vs w2 hb2 hd => ?_, trivial⟩
      -- 0: Op.move t0
      · clear hd
        go_wp2
        exact ⟨rfl, rfl, rfl, Below.refl _ _⟩
      -- 1: Op.move t7
      · simp only [Act.put, List.setIfInBounds_toArray, List.set_cons_zero, List.set_cons_succ]
        clear hd
        go_wp2
        exact ⟨rfl, rfl, rfl, Below.refl _ _⟩
      -- 2: Op.slice 23 t59 none (some t60) none
      · simp only [Act.put, List.setIfInBounds_toArray, List.set_cons_zero, List.set_cons_succ, Nat.reduceAdd]
        have e0 : vs 0 = .slice A1 a.length c1 := hd 0 (by kernel_rfl)
        have e1 : vs 1 = .int .i64 (k : Int) := hd 1 (by kernel_rfl)
        clear hd
        go_wp2
        exact ⟨rfl, rfl, rfl, Below.refl _ _⟩
      -- 3: Op.buildSlice 22 1 #[(0, t61)]
      · simp only [Act.put, List.setIfInBounds_toArray, List.set_cons_zero, List.set_cons_succ, Nat.reduceAdd]
        have e2 : vs 2 = .slice A1 k c1 := hd 2 (by kernel_rfl)
        clear hd
        go_wp2
        exact ⟨rfl, rfl, OneRow_new _ _ _ _ _ _, Below.alloc (Below.refl _ _) (Nat.le_refl _) _⟩
      -- 4: Op.call { value (Operand.func 15), args := #[t62], argTypes := #[22] }
      · simp only [Act.put, List.setIfInBounds_toArray, List.set_cons_zero, List.set_cons_succ, Nat.reduceAdd]
        obtain ⟨g3, e3, hg3, hc3⟩ := (show (OneRow (A1) (k) (c1)) (vs 3) w2 from hd 3 (by kernel_rfl))
        clear hd
        go_wp2_with fail
        refine (unhide SA _ g3 hb2 hg3 hc3).mono ?_
        rintro e w' ⟨rfl, rfl⟩
        go_wp2
        exact ⟨rfl, rfl, rfl, Below.refl _ _⟩
      -- 5: Op.move t1
      · simp only [Act.put, List.setIfInBounds_toArray, List.set_cons_zero, List.set_cons_succ, Nat.reduceAdd]
        clear hd
        go_wp2
        exact ⟨rfl, rfl, rfl, Below.refl _ _⟩
      -- 6: Op.move t7
      · simp only [Act.put, List.setIfInBounds_toArray, List.set_cons_zero, List.set_cons_succ, Nat.reduceAdd]
        clear hd
        go_wp2
        exact ⟨rfl, rfl, rfl, Below.refl _ _⟩
      -- 7: Op.slice 23 t64 none (some t65) none
      · simp only [Act.put, List.setIfInBounds_toArray, List.set_cons_zero, List.set_cons_succ, Nat.reduceAdd]
        have e5 : vs 5 = .slice A2 b.length c2 := hd 5 (by kernel_rfl)
        have e6 : vs 6 = .int .i64 (k : Int) := hd 6 (by kernel_rfl)
        clear hd
        go_wp2
        exact ⟨rfl, rfl, rfl, Below.refl _ _⟩
      -- 8: Op.buildSlice 22 1 #[(0, t66)]
      · simp only [Act.put, List.setIfInBounds_toArray, List.set_cons_zero, List.set_cons_succ, Nat.reduceAdd]
        have e7 : vs 7 = .slice A2 k c2 := hd 7 (by kernel_rfl)
        clear hd
        go_wp2
        exact ⟨rfl, rfl, OneRow_new _ _ _ _ _ _, Below.alloc (Below.refl _ _) (Nat.le_refl _) _⟩
      -- 9: Op.call { value (Operand.func 15), args := #[t67], argTypes := #[22] }
      · simp only [Act.put, List.setIfInBounds_toArray, List.set_cons_zero, List.set_cons_succ, Nat.reduceAdd]
        obtain ⟨g8, e8, hg8, hc8⟩ := (show (OneRow (A2) (k) (c2)) (vs 8) w2 from hd 8 (by kernel_rfl))
        clear hd
        go_wp2_with fail
        refine (unhide SB _ g8 hb2 hg8 hc8).mono ?_
        rintro e w' ⟨rfl, rfl⟩
        go_wp2
        exact ⟨rfl, rfl, rfl, Below.refl _ _⟩
      -- 10: Op.binOp BinOp.xor 27 t63 t68 27
      · simp only [Act.put, List.setIfInBounds_toArray, List.set_cons_zero, List.set_cons_succ, Nat.reduceAdd]
        have e4 : vs 4 = .int .u32 (xa : Int) := hd 4 (by kernel_rfl)
        have e9 : vs 9 = .int .u32 (xb : Int) := hd 9 (by kernel_rfl)
        clear hd
        go_wp2
        exact ⟨rfl, rfl, rfl, Below.refl _ _⟩
      -- 11: Op.move t2
      · simp only [Act.put, List.setIfInBounds_toArray, List.set_cons_zero, List.set_cons_succ, Nat.reduceAdd]
        clear hd
        go_wp2
        exact ⟨rfl, rfl, rfl, Below.refl _ _⟩
      -- 12: Op.move t7
      · simp only [Act.put, List.setIfInBounds_toArray, List.set_cons_zero, List.set_cons_succ, Nat.reduceAdd]
        clear hd
        go_wp2
        exact ⟨rfl, rfl, rfl, Below.refl _ _⟩
      -- 13: Op.slice 23 t70 none (some t71) none
      · simp only [Act.put, List.setIfInBounds_toArray, List.set_cons_zero, List.set_cons_succ, Nat.reduceAdd]
        have e11 : vs 11 = .slice A3 d.length c3 := hd 11 (by kernel_rfl)
        have e12 : vs 12 = .int .i64 (k : Int) := hd 12 (by kernel_rfl)
        clear hd
        go_wp2
        exact ⟨rfl, rfl, rfl, Below.refl _ _⟩
      -- 14: Op.buildSlice 22 1 #[(0, t72)]
      · simp only [Act.put, List.setIfInBounds_toArray, List.set_cons_zero, List.set_cons_succ, Nat.reduceAdd]
        have e13 : vs 13 = .slice A3 k c3 := hd 13 (by kernel_rfl)
        clear hd
        go_wp2
        exact ⟨rfl, rfl, OneRow_new _ _ _ _ _ _, Below.alloc (Below.refl _ _) (Nat.le_refl _) _⟩
      -- 15: Op.call { value (Operand.func 15), args := #[t73], argTypes := #[22] }
      · simp only [Act.put, List.setIfInBounds_toArray, List.set_cons_zero, List.set_cons_succ, Nat.reduceAdd]
        obtain ⟨g14, e14, hg14, hc14⟩ := (show (OneRow (A3) (k) (c3)) (vs 14) w2 from hd 14 (by kernel_rfl))
        clear hd
        go_wp2_with fail
        refine (unhide SD _ g14 hb2 hg14 hc14).mono ?_
        rintro e w' ⟨rfl, rfl⟩
        go_wp2
        exact ⟨rfl, rfl, rfl, Below.refl _ _⟩
      -- 16: Op.binOp BinOp.xor 27 t69 t74 27
      · simp only [Act.put, List.setIfInBounds_toArray, List.set_cons_zero, List.set_cons_succ, Nat.reduceAdd]
        have e10 : vs 10 = .int .u32 (xab : Int) := hd 10 (by kernel_rfl)
        have e15 : vs 15 = .int .u32 (xd : Int) := hd 15 (by kernel_rfl)
        clear hd
        go_wp2
        exact ⟨rfl, rfl, rfl, Below.refl _ _⟩
      -- 17: Op.move t8
      · simp only [Act.put, List.setIfInBounds_toArray, List.set_cons_zero, List.set_cons_succ, Nat.reduceAdd]
        clear hd
        go_wp2
        exact ⟨rfl, rfl, rfl, Below.refl _ _⟩
      -- 18: Op.buildSlice 22 1 #[(0, t76)]
      · simp only [Act.put, List.setIfInBounds_toArray, List.set_cons_zero, List.set_cons_succ, Nat.reduceAdd]
        have e17 : vs 17 = .slice (some ⟨w1.heap.size, 0, none⟩) k k := hd 17 (by kernel_rfl)
        clear hd
        go_wp2
        exact ⟨rfl, rfl, OneRow_new _ _ _ _ _ _, Below.alloc (Below.refl _ _) (Nat.le_refl _) _⟩
      -- 19: Op.call { value (Operand.func 15), args := #[t77], argTypes := #[22] }
      · simp only [Act.put, List.setIfInBounds_toArray, List.set_cons_zero, List.set_cons_succ, Nat.reduceAdd]
        obtain ⟨g18, e18, hg18, hc18⟩ := (show (OneRow (some ⟨w1.heap.size, 0, none⟩) (k) (k)) (vs 18) w2 from hd 18 (by kernel_rfl))
        clear hd
        go_wp2_with fail
        refine (unhide SE _ g18 hb2 hg18 hc18).mono ?_
        rintro e w' ⟨rfl, rfl⟩
        go_wp2
        exact ⟨rfl, rfl, rfl, Below.refl _ _⟩
      -- 20: Op.binOp BinOp.eql 27 t75 t78 27
      · simp only [Act.put, List.setIfInBounds_toArray, List.set_cons_zero, List.set_cons_succ, Nat.reduceAdd]
        have e16 : vs 16 = .int .u32 (xe : Int) := hd 16 (by kernel_rfl)
        have e19 : vs 19 = .int .u32 (xe : Int) := hd 19 (by kernel_rfl)
        clear hd
        go_wp2
        exact ⟨rfl, rfl, rfl, Below.refl _ _⟩
      -- 21: Op.assign t79
      · simp only [Act.put, List.setIfInBounds_toArray, List.set_cons_zero, List.set_cons_succ, Nat.reduceAdd]
        have e20 : vs 20 = .bool true := hd 20 (by kernel_rfl)
        clear hd
        go_wp2
        exact ⟨rfl, rfl, e20, Below.refl _ _⟩
      intro vs w2 hb2 hd
      simp only [putAll, Act.put, List.setIfInBounds_toArray, List.set_cons_zero, List.set_cons_succ, Nat.reduceAdd]
      have e21 : vs 21 = .bool true := hd 21 (by decide)
      clear hd
      simp only [e21]
      clear e21
      go_wp2
      go_ret
      exact ⟨rfl, HW.out.trans (Below.mono ⟨hb2.os, hb2.tape, hb2.output, hb2.size, hb2.block⟩ HW.out.size)⟩
set_option maxRecDepth 100000 in
set_option maxHeartbeats 1000000 in
theorem crcAdds_no (n1 n2 n3 c1 c2 c3 : Nat) (A1 A2 A3 : Option Addr) (w : World) (hn : 500 < n1 ∨ 500 < n2 ∨ 500 < n3) (hh : HalfAt w) :
    Calls Tryd.prog 4 #[.slice A1 n1 c1, .slice A2 n2 c2, .slice A3 n3 c3] w fun e w' => e = .returned (.bool true) ∧ Below w.heap.size w w' := by
  have HH := hide hh
  clear hh
  obtain ⟨b1, hb1⟩ : ∃ b, decide ((500 : Int) < (n1 : Int)) = b := ⟨_, rfl⟩
  obtain ⟨b2, hb2⟩ : ∃ b, decide ((500 : Int) < (n2 : Int)) = b := ⟨_, rfl⟩
  obtain ⟨b3, hb3⟩ : ∃ b, decide ((500 : Int) < (n3 : Int)) = b := ⟨_, rfl⟩
  have hor : (b1 || (b2 || b3)) = true := by
    rw [← hb1, ← hb2, ← hb3]
    simp
    omega
  clear hn
  cases b1 <;> cases b2 <;> cases b3 <;> first | (exact absurd hor (by decide)) | skip
  all_goals
    clear hor
    go_enter Tryd.func4, Tryd.ntmps4
    go_wp2_with fail
    refine (awake12 w (unhide HH)).mono ?_
    rintro e w1 ⟨rfl, hbe⟩
    have HE := hide hbe
    clear hbe
    go_wp2_with fail
    refine (awake12 w1 ((unhide HH).below HE.out)).mono ?_
    rintro e w2 ⟨rfl, hbe2⟩
    have HE2 := hide (HE.out.trans (hbe2.mono HE.out.size))
    clear hbe2
    go_wp2
    go_ret
    exact ⟨rfl, HE2.out⟩
end Go.Proofs.YtenhjnicadjbaaaDoor
