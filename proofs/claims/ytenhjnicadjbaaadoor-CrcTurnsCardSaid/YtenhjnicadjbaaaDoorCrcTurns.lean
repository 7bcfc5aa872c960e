/-
  The walk of icehouselaw12.CrcTurns. Conditions: the arguments read as a slice of bytes, an integer, four octets; the table half reads as the text lays it.
-/
import Derived.Test.YtenhjnicadjbaaaDoorCrcBurst
import Derived.Test.YtenhjnicadjbaaaDoorStrings
import Derived.BigRegion
namespace Go.Proofs.YtenhjnicadjbaaaDoor
open Go Go.RowKit

theorem u8xx (a b : UInt8) : bits .xor .u8 (a.toNat : Int) (b.toNat : Int) = (((a ^^^ b).toNat : Nat) : Int) := by
  rw [u8_xor_nat _ _ (by have := a.toNat_lt; omega) (by have := b.toNat_lt; omega), UInt8.toNat_xor]

theorem turn_in (t : Int) (L : Nat) (hL : L ≤ 1000) :
    ∃ k : Nat, k ≤ L ∧ (wrap64 (wrap64 (t.tmod (↑L + 4 - 3) + (↑L + 4)) - 3)).tmod (↑L + 4 - 3) = (k : Int) := by
  have e0 : (L : Int) + 4 - 3 = L + 1 := by omega
  rw [e0]
  have a := Int.tmod_lt_of_pos t (b := (L : Int) + 1) (by omega)
  have b := Int.lt_tmod_of_pos t (b := (L : Int) + 1) (by omega)
  have e1 : wrap64 (t.tmod (↑L + 1) + (↑L + 4)) = t.tmod (↑L + 1) + (↑L + 4) := IntWalk.wrap64_in _ ⟨by omega, by omega⟩
  have e2 : wrap64 (t.tmod (↑L + 1) + (↑L + 4) - 3) = t.tmod (↑L + 1) + (↑L + 4) - 3 := IntWalk.wrap64_in _ ⟨by omega, by omega⟩
  rw [e1, e2]
  have c := Int.tmod_lt_of_pos (t.tmod (↑L + 1) + (↑L + 4) - 3) (b := (L : Int) + 1) (by omega)
  have d := Int.tmod_nonneg ((L : Int) + 1) (a := t.tmod (↑L + 1) + (↑L + 4) - 3) (by omega)
  exact ⟨((t.tmod (↑L + 1) + (↑L + 4) - 3).tmod (↑L + 1)).toNat, by omega, by omega⟩
theorem byts_set (l : List UInt8) (j : Nat) (x : UInt8) : byts (l.set j x) = (byts l).set j (.int .u8 (x.toNat : Int)) := by
  simp [byts, List.map_set]
theorem cur_at {cur : Array Value} {n j : Nat} {X : List UInt8} (h : cur.toList.take n = byts X) (hX : X.length = n) (hj : j < n) : cur[j]? = some (.int .u8 ((X.getD j 0).toNat : Int)) := by
  have h1 : (cur.toList.take n)[j]? = some (.int .u8 ((X.getD j 0).toNat : Int)) := by
    rw [h, byts_get (by omega), List.getD_eq_getElem?_getD, List.getElem?_eq_getElem (by omega)]
    rfl
  rw [List.getElem?_take_of_lt hj] at h1
  rw [← Array.getElem?_toList]
  exact h1
theorem cur_set {cur : Array Value} {n j : Nat} {X : List UInt8} (x : UInt8) (h : cur.toList.take n = byts X) : (cur.setIfInBounds j (.int .u8 (x.toNat : Int))).toList.take n = byts (X.set j x) := by
  rw [byts_set, ← h, Array.toList_setIfInBounds, List.take_set]
theorem ws_at (w : World) (g : Nat) (t : TypeId) (y0 y1 y2 y3 : UInt8) (h : Blk w g t #[.int .u8 (y0.toNat : Int), .int .u8 (y1.toNat : Int), .int .u8 (y2.toNat : Int), .int .u8 (y3.toNat : Int)]) (i : Nat) (hi : i < 4) :
    w.cell? ⟨g, i, none⟩ = some (.int .u8 ((([y0, y1, y2, y3] : List UInt8).getD i 0).toNat : Int)) := by
  rw [h.cell i]
  match i, hi with
  | 0, _ => rfl
  | 1, _ => rfl
  | 2, _ => rfl
  | 3, _ => rfl

theorem forIn_range4 {β : Type} (f : Nat → β → Sem (ForInStep β)) (b : β) : (forIn [0:4] b f : Sem β) = forIn [0, 1, 2, 3] b f := by
  rw [Std.Legacy.Range.forIn_eq_forIn_range']
  rfl
theorem part4 (x y z u : Int) (w : World) : (part 5 #[.int .u8 x, .int .u8 y, .int .u8 z, .int .u8 u] 0).run Tryd.prog w = .ok (.int .u8 x) w ∧ (part 5 #[.int .u8 x, .int .u8 y, .int .u8 z, .int .u8 u] 1).run Tryd.prog w = .ok (.int .u8 y) w ∧
    (part 5 #[.int .u8 x, .int .u8 y, .int .u8 z, .int .u8 u] 2).run Tryd.prog w = .ok (.int .u8 z) w ∧ (part 5 #[.int .u8 x, .int .u8 y, .int .u8 z, .int .u8 u] 3).run Tryd.prog w = .ok (.int .u8 u) w := by
  refine ⟨?_, ?_, ?_, ?_⟩ <;> kernel_rfl
theorem eq4 (a0 a1 a2 a3 b0 b1 b2 b3 : Int) (w : World) (d : Nat) : (Op.equalIn (d + 2) 34 (.agg #[.int .u8 a0, .int .u8 a1, .int .u8 a2, .int .u8 a3]) (.agg #[.int .u8 b0, .int .u8 b1, .int .u8 b2, .int .u8 b3])).run Tryd.prog w = .ok (a0 == b0 && (a1 == b1 && (a2 == b2 && a3 == b3))) w := by
  have h5 : ∀ (x y : Int) (w : World), (Op.equalIn (d + 1) 5 (.int .u8 x) (.int .u8 y)).run Tryd.prog w = .ok (x == y) w := fun x y w => run_equalIn_int w d 5 .u8 .u8 x y Tryd.underlying5
  have hs : ∀ w, (sizeOf 5).run Tryd.prog w = .ok 1 w := fun w => by kernel_rfl
  rw [show d + 2 = (d + 1) + 1 from rfl]
  have E0 := h5 a0 b0 w
  have E1 := h5 a1 b1 w
  have E2 := h5 a2 b2 w
  have E3 := h5 a3 b3 w
  clear h5
  generalize d + 1 = D at *
  generalize (a0 == b0) = e0 at *
  generalize (a1 == b1) = e1 at *
  generalize (a2 == b2) = e2 at *
  generalize (a3 == b3) = e3 at *
  obtain ⟨p0, p1, p2, p3⟩ := part4 a0 a1 a2 a3 w
  obtain ⟨q0, q1, q2, q3⟩ := part4 b0 b1 b2 b3 w
  simp only [Op.equalIn, Sem.run_bind, run_underlying Tryd.underlying34, Result.andThen_ok, hs, forIn_range4, List.forIn_cons, List.forIn_nil, Nat.zero_mul, Nat.one_mul, Nat.mul_one, p0, q0, E0]
  cases e0 <;> cases e1 <;> cases e2 <;> cases e3 <;> simp [p1, p2, p3, q1, q2, q3, E1, E2, E3]

set_option maxRecDepth 100000 in
set_option maxHeartbeats 1000000 in
theorem crcTurns_yes (l : List UInt8) (A : Option Addr) (n c : Nat) (t : Int) (y0 y1 y2 y3 : UInt8) (w : World) (hn : n = l.length) (hl : l.length ≤ 1000) (hA : BytesAt w w.heap.size A l) (hh : HalfAt w) :
    Calls Tryd.prog 6 #[.slice A n c, .int .i64 t, .agg #[.int .u8 (y0.toNat : Int), .int .u8 (y1.toNat : Int), .int .u8 (y2.toNat : Int), .int .u8 (y3.toNat : Int)]] w fun e w' => e = .returned (.bool true) ∧ Below w.heap.size w w' := by
  subst hn
  have HA := hide hA
  have HH := hide hh
  have h1000 : decide ((1000 : Int) < (l.length : Int)) = false := by simp; omega
  obtain ⟨k, hk, ek⟩ := turn_in t l.length hl
  have EK := hide ek
  obtain ⟨i0, hi0, hz0, hz1, hz2⟩ := info_parts info_u8
  clear hA hh ek
  go_enter Tryd.func6, Tryd.ntmps6
  go_wp2_with fail
  have hb0 : Below w.heap.size w (w.alloc (.cells #[.int .u8 (y0.toNat : Int), .int .u8 (y1.toNat : Int), .int .u8 (y2.toNat : Int), .int .u8 (y3.toNat : Int)] 34)) := Below.alloc (Below.refl _ _) (Nat.le_refl _) _
  refine (awake12 _ ((unhide HH).below hb0)).mono ?_
  rintro e w1 ⟨rfl, hbe⟩
  have HE := hide (hb0.trans (hbe.mono (by simp)))
  have hbox : Blk w1 w.heap.size 34 #[.int .u8 (y0.toNat : Int), .int .u8 (y1.toNat : Int), .int .u8 (y2.toNat : Int), .int .u8 (y3.toNat : Int)] := (Blk.new w _ _).below hbe (by simp)
  have HBX := hide hbox
  clear hbe hb0 hbox
  go_wp2_with fail
  have HA1 := hide ((unhide HA).lift HE.out HE.out.size)
  refine (refFrame_any l A l.length c w1.heap.size w1 rfl (by omega) HA1.out).mono ?_
  rintro e w2 ⟨v2, rfl, hown2, hbe2⟩
  have hbx2 := hide ((unhide HBX).below hbe2 (by have := Blk.lt (unhide HBX); exact this))
  have HO2 := hide hown2
  have HE2 := hide (HE.out.trans (hbe2.mono HE.out.size))
  have HA2 := hide (HA1.out.lift hbe2 hbe2.size)
  have hfl := frameL_len l
  obtain ⟨Af, cf, rfl, hcf, hbf⟩ := own_slice hown2
  have HBF := hide hbf
  clear hown2 hbe2 hbf
  rw [hfl]
  have HFL := hide hfl
  clear hfl
  have ek := EK.out
  go_wp2_with (at_builtin; refine wpList_append_any _ rfl (.tmp 36) (.tmp 37) _ rfl w2.heap.size 5 i0 _ 1 1 Tryd.underlying23 hi0 hz0 hz1 hz2 rfl (by omega) (.slice (some ⟨w2.heap.size, 0, none⟩) 0 0) 0 [] rfl (World.ownsRow_made w2 #[] 0 (Nat.le_refl _) (by simp only [maxLen]; omega) rfl) (w2.heap.size + 1) Af (l.length + 4) cf (byts (frameL l)) rfl (by rw [← HFL.out]; exact (Reads.alloc (unhide HBF) (Nat.le_refl _) _).more (by omega)) byts_one (by simp only [maxLen]; omega) (by omega) (by simp) ?_; intro v3 w3 hown3 hg3 hat3)
  clear ek
  rw [Nat.zero_add, List.nil_append] at hown3
  have hbe3 : Below w2.heap.size w2 w3 := (Below.alloc (Below.refl _ _) (Nat.le_refl _) _).grown hg3 (by simp) (fun q hq => by simp [Value.ownBlock] at hq; omega)
  obtain ⟨g, cap, cur0, rfl, hgb, hblk0, hncap, _, _, hcur0⟩ : ∃ g cap cur, v3 = .slice (some ⟨g, 0, none⟩) (l.length + 4) cap ∧ w2.heap.size ≤ g ∧ w3.heap[g]? = some (.cells cur 5 (0, 0)) ∧ l.length + 4 ≤ cap ∧ cap ≤ maxLen ∧ cur.size = cap * 1 ∧ cur.toList.take ((l.length + 4) * 1) = byts (frameL l) := hown3.2.resolve_left (fun h => by omega)
  rw [Nat.mul_one] at hcur0
  have HB3 := hide hbe3
  have HBLK : Hid (Blk w3 g 5 cur0) := hblk0
  have HCUR := hide hcur0
  have hgw : w.heap.size < w2.heap.size := Blk.lt (unhide hbx2)
  clear hown3 hbe3 hblk0 hcur0 hg3 hat3
  go_loopw [10] (fun i wr => ∃ m : Nat, m ≤ 4 ∧ i = .int .i64 m ∧ ∃ cur, Blk wr g 5 cur ∧ cur.toList.take (l.length + 4) = byts (chg (frameL l) k [y0, y1, y2, y3] m) ∧ Below w2.heap.size w2 wr) (fun i _ => 4 - (intOf i).toNat)
  case atStart => exact ⟨0, Nat.zero_le _, rfl, cur0, HBLK.out, HCUR.out, HB3.out⟩
  case round =>
    obtain ⟨m, hm, rfl, cur, hblk, hcur, hbe⟩ := hrel
    have hX : (chg (frameL l) k [y0, y1, y2, y3] m).length = l.length + 4 := by rw [chg_len, HFL.out]
    by_cases hlt : m < 4
    · have r1 : wr.cell? ⟨g, k + m, none⟩ = _ := (hblk.cell (k + m)).trans (cur_at hcur hX (by omega))
      have r2 := hblk.frozen (k + m)
      have r3 := ws_at wr w.heap.size 34 y0 y1 y2 y3 ((unhide hbx2).below hbe hgw) m hlt
      have HS : Hid (chg (frameL l) k [y0, y1, y2, y3] (m + 1) = (chg (frameL l) k [y0, y1, y2, y3] m).set (k + m) ((chg (frameL l) k [y0, y1, y2, y3] m).getD (k + m) 0 ^^^ ([y0, y1, y2, y3] : List UInt8).getD m 0)) := by
        show _ = _
        simp only [chg]
        congr 2
        rw [List.getD_eq_getElem?_getD, List.getD_eq_getElem?_getD, chg_at _ _ _ m (k + m) (Nat.le_refl _)]
      have HBK := hide hblk
      have HCU := hide hcur
      have HBE := hide hbe
      have x1 := u8xx ((chg (frameL l) k [y0, y1, y2, y3] m).getD (k + m) 0) (([y0, y1, y2, y3] : List UInt8).getD m 0)
      clear hblk hcur hbe hX
      generalize (chg (frameL l) k [y0, y1, y2, y3] m).getD (k + m) 0 = xa at *
      generalize ([y0, y1, y2, y3] : List UInt8).getD m 0 = xb at *
      generalize xa ^^^ xb = xc at *
      have i1 : (0 : Int) ≤ (m : Int) := by omega
      have i2 : (m : Int) < 4 := by omega
      go_wp2_with fail
      go_region
      all_goals
        go_wp2
        refine ⟨⟨m + 1, by omega, by go_num, cur.setIfInBounds (k + m) (.int .u8 (xc.toNat : Int)), ?_, ?_, ?_⟩, by simp [intOf]; omega⟩
        · exact (unhide HBK).set_ (k + m) _
        · rw [HS.out]
          exact cur_set xc HCU.out
        · exact (HBE.out.setCell (p := ⟨g, k + m, none⟩) hgb _).drew
    · obtain rfl : m = 4 := by omega
      have hbw : Below w.heap.size w wr := HE2.out.trans (hbe.mono HE2.out.size)
      have HBX3 := hide ((unhide hbx2).below hbe hgw)
      have HAX : Hid (BytesAt wr wr.heap.size (some ⟨g, 0, none⟩) (chg (frameL l) k [y0, y1, y2, y3] 4)) := by
        refine ⟨by simp [byts], fun _ => ⟨_, rfl, Blk.lt hblk, fun j u hu => ?_⟩⟩
        have hj : j < l.length + 4 := by
          have := (List.getElem?_eq_some_iff.1 hu).1
          rw [byts_length, hX] at this
          exact this
        rw [add_flat, Nat.zero_add, hblk.cell j, cur_at hcur hX hj, ← hu, byts_get (by omega), List.getD_eq_getElem?_getD, List.getElem?_eq_getElem (by omega)]
        rfl
      have HOP := hide (open_long (chg (frameL l) k [y0, y1, y2, y3] 4) (some ⟨g, 0, none⟩) (l.length + 4) cap l.length wr rfl hX (by omega) (by omega) HAX.out ((unhide HH).below hbw))
      have HX := hide hX
      have HBW := hide hbw
      have HA3 := hide ((unhide HA).lift hbw hbw.size)
      rw [chg_framed l k y0 y1 y2 y3 hk] at HOP
      clear hblk hcur hbe hX hbw
      go_wp2_with fail
      refine (unhide HOP).mono ?_
      rintro e w5 hop
      by_cases hz : y0 = 0 ∧ y1 = 0 ∧ y2 = 0 ∧ y3 = 0
      · obtain ⟨v6, rfl, hown6, hbe6⟩ := hop.1 (decide_eq_true hz)
        have heq : ∀ W : World, (Op.equalIn 10000 34 (.agg #[.int .u8 (y0.toNat : Int), .int .u8 (y1.toNat : Int), .int .u8 (y2.toNat : Int), .int .u8 (y3.toNat : Int)]) (.agg #[.int .u8 0, .int .u8 0, .int .u8 0, .int .u8 0])).run Tryd.prog W = .ok true W := fun W => by
          rw [eq4 _ _ _ _ _ _ _ _ W 9998]
          simp [hz]
        have hch : (chg (frameL l) k [y0, y1, y2, y3] 4).take l.length = l := by
          rw [hz.1, hz.2.1, hz.2.2.1, hz.2.2.2, chg_zero _ _ (by rw [HFL.out]; omega)]
          simp [frameL]
        rw [hch] at hown6
        obtain ⟨A6, c6, rfl, _, hb6⟩ := own_slice hown6
        have b5 := (unhide HBX3).below hbe6 (Blk.lt (unhide HBX3))
        have q0 := b5.cell 0
        have q1 := b5.cell 1
        have q2 := b5.cell 2
        have q3 := b5.cell 3
        have s1 := conv_str l.length c6 rfl hb6
        have s2 := conv_str l.length c rfl (HA3.out.lift hbe6 hbe6.size)
        have HW5 := hide (HBW.out.trans (hbe6.mono HBW.out.size))
        clear hop HOP hz b5 hown6 hbe6 hch hb6
        simp only [List.getElem?_toArray, List.getElem?_cons_zero, List.getElem?_cons_succ] at q0 q1 q2 q3
        generalize strOf l = S at *
        go_wp2
        go_ret
        exact ⟨rfl, HW5.out⟩
      · obtain ⟨rfl, hbe6⟩ := hop.2 (decide_eq_false hz)
        have heq : ∀ W : World, (Op.equalIn 10000 34 (.agg #[.int .u8 (y0.toNat : Int), .int .u8 (y1.toNat : Int), .int .u8 (y2.toNat : Int), .int .u8 (y3.toNat : Int)]) (.agg #[.int .u8 0, .int .u8 0, .int .u8 0, .int .u8 0])).run Tryd.prog W = .ok false W := fun W => by
          rw [eq4 _ _ _ _ _ _ _ _ W 9998]
          congr 1
          rw [Bool.eq_false_iff]
          intro hc
          simp only [Bool.and_eq_true, beq_iff_eq] at hc
          refine hz ⟨UInt8.toNat_inj.1 ?_, UInt8.toNat_inj.1 ?_, UInt8.toNat_inj.1 ?_, UInt8.toNat_inj.1 ?_⟩
          · simpa using hc.1
          · simpa using hc.2.1
          · simpa using hc.2.2.1
          · simpa using hc.2.2.2
        have b5 := (unhide HBX3).below hbe6 (Blk.lt (unhide HBX3))
        have q0 := b5.cell 0
        have q1 := b5.cell 1
        have q2 := b5.cell 2
        have q3 := b5.cell 3
        have HW5 := hide (HBW.out.trans (hbe6.mono HBW.out.size))
        clear hop HOP hz b5 hbe6
        simp only [List.getElem?_toArray, List.getElem?_cons_zero, List.getElem?_cons_succ] at q0 q1 q2 q3
        go_wp2
        go_ret
        exact ⟨rfl, HW5.out⟩
set_option maxRecDepth 100000 in
set_option maxHeartbeats 400000 in
theorem crcTurns_no (n c : Nat) (A : Option Addr) (t : Int) (y0 y1 y2 y3 : UInt8) (w : World) (hn : 1000 < n) (hh : HalfAt w) :
    Calls Tryd.prog 6 #[.slice A n c, .int .i64 t, .agg #[.int .u8 (y0.toNat : Int), .int .u8 (y1.toNat : Int), .int .u8 (y2.toNat : Int), .int .u8 (y3.toNat : Int)]] w fun e w' => e = .returned (.bool true) ∧ Below w.heap.size w w' := by
  have HH := hide hh
  have h1000 : decide ((1000 : Int) < (n : Int)) = true := by simp; omega
  clear hh
  go_enter Tryd.func6, Tryd.ntmps6
  go_wp2_with fail
  have hb0 : Below w.heap.size w (w.alloc (.cells #[.int .u8 (y0.toNat : Int), .int .u8 (y1.toNat : Int), .int .u8 (y2.toNat : Int), .int .u8 (y3.toNat : Int)] 34)) := Below.alloc (Below.refl _ _) (Nat.le_refl _) _
  refine (awake12 _ ((unhide HH).below hb0)).mono ?_
  rintro e w1 ⟨rfl, hbe⟩
  have HE := hide (hb0.trans (hbe.mono (by simp)))
  clear hbe hb0
  go_wp2_with fail
  refine (awake12 w1 ((unhide HH).below HE.out)).mono ?_
  rintro e w2 ⟨rfl, hbe2⟩
  have HE2 := hide (HE.out.trans (hbe2.mono HE.out.size))
  clear hbe2
  go_wp2
  go_ret
  exact ⟨rfl, HE2.out⟩
end Go.Proofs.YtenhjnicadjbaaaDoor
