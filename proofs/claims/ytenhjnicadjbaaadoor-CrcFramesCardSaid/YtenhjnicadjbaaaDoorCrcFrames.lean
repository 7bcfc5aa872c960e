/-
  The walk of icehouselaw12.CrcFrames. Conditions: the arguments read as a slice of slices of bytes and a slice of bytes; the table half reads as the text lays it.
-/
import Derived.Test.YtenhjnicadjbaaaDoorCrcBurst
import Derived.Test.YtenhjnicadjbaaaDoorCrcSums
import Derived.Test.YtenhjnicadjbaaaDoorStrings
namespace Go.Proofs.YtenhjnicadjbaaaDoor
open Go Go.RowKit

theorem own_bytes {w : World} {base : Nat} {l : List UInt8} {v : Value} (h : w.ownsRow base 5 1 v l.length (byts l)) : ByteRes l v w := by
  obtain ⟨A, c, e, hc, hb⟩ := own_slice h
  exact ⟨A, c, e, hc, hb⟩

theorem framed_eq (l : List UInt8) (k : Nat) (h : l.length = k + 4) : framed l = decide (frameL (l.take k) = l) := by
  unfold framed
  rw [show l.length - 4 = k from by omega]
  by_cases hd : l.drop k = le4 (crcN (l.take k))
  · rw [decide_eq_true hd, decide_eq_true]
    unfold frameL
    rw [← hd, List.take_append_drop]
  · rw [decide_eq_false hd, decide_eq_false]
    intro e
    apply hd
    have := congrArg (List.drop k) e
    rw [← this]
    unfold frameL
    rw [List.drop_append_of_le_length (by rw [List.length_take]; omega), List.drop_take]
    simp
theorem str_ne {a b : List UInt8} (h : a ≠ b) : (strOf a).toList ≠ (strOf b).toList := fun e => h (by
  simpa [ByteArray.toList_eq, strOf] using e)

set_option maxRecDepth 100000 in
set_option maxHeartbeats 2000000 in
theorem crcFrames_yes (ls : List (List UInt8)) (lb : List UInt8) (A Ab : Option Addr) (n c nb cb : Nat) (w : World) (hn : n = ls.length) (hnb : nb = lb.length) (hf : fits ls = true) (hlb : lb.length ≤ 3000) (hcb : lb.length ≤ cb) (hA : RowsAt w w.heap.size A ls) (hAb : BytesAt w w.heap.size Ab lb) (hh : HalfAt w) :
    Calls Tryd.prog 8 #[.slice A n c, .slice Ab nb cb] w fun e w' => e = .returned (.bool true) ∧ Below w.heap.size w w' := by
  subst hn hnb
  obtain ⟨i0, hi0, hz0, hz1, hz2⟩ := info_parts info_u8
  obtain ⟨hl21, hl500⟩ := fits_yes hf
  have hLl := flat_len hl21 hl500
  have HA := hide hA
  have HAb := hide hAb
  have HH := hide hh
  have HJ := hide (joined_yes ls A ls.length c w rfl hl21 hl500 hA)
  have HFR := hide (fun (W : World) (hW : Below w.heap.size w W) => frame_any ls A ls.length c W.heap.size W rfl (by omega) (by omega) (fun l hl => by have := hl500 l hl; omega) (Nat.le_refl _) (hA.lift hW hW.size) (hh.below hW))
  have h3000 : decide ((3000 : Int) < (lb.length : Int)) = false := by simp; omega
  clear hA hAb hh hl500 hf
  go_enter Tryd.func8, Tryd.ntmps8
  go_wp2_with fail
  refine (unhide HJ).mono ?_
  rintro e u1 ⟨A', c', rfl, hc', hb', hbe⟩
  have HB1 := hide hb'
  have HE1 := hide hbe
  clear hb' hbe HJ
  generalize ls.flatten = all at *
  go_wp2_with fail
  refine (awake12 u1 ((unhide HH).below HE1.out)).mono ?_
  rintro e u2 ⟨rfl, hbe2⟩
  have HE2 := hide (HE1.out.trans (hbe2.mono HE1.out.size))
  have HB2 := hide (HB1.out.lift hbe2 hbe2.size)
  clear hbe2
  go_wp2_with fail
  refine (unhide HFR u2 HE2.out).mono ?_
  rintro e u3 ⟨v3, rfl, hown3, hbe3⟩
  obtain ⟨Af, cf, rfl, hcf, hbf⟩ := own_slice hown3
  have HE3 := hide (HE2.out.trans (hbe3.mono HE2.out.size))
  have HB3 := hide (HB2.out.lift hbe3 hbe3.size)
  have hfl := frameL_len all
  have HBF := hide hbf
  clear hown3 hbe3 hbf
  have HOP := hide (open_long (frameL all) Af (all.length + 4) cf all.length u3 rfl hfl (by omega) hcf HBF.out ((unhide HH).below HE3.out))
  have HFL := hide hfl
  rw [hfl]
  clear hfl
  go_wp2_with fail
  refine (unhide HOP).mono ?_
  rintro e u4 hop
  obtain ⟨v4, rfl, hown4, hbe4⟩ := hop.1 (framed_frame all)
  have htk : (frameL all).take all.length = all := by simp [frameL]
  rw [htk] at hown4
  obtain ⟨Ax, cx, rfl, hcx, hbx⟩ := own_slice hown4
  have HBX := hide hbx
  have HE4 := hide (HE3.out.trans (hbe4.mono HE3.out.size))
  have HB4 := hide (HB3.out.lift hbe4 hbe4.size)
  have HBF4 := hide (HBF.out.lift hbe4 hbe4.size)
  clear hop HOP hown4 hbx hbe4 htk
  go_wp2_with fail
  refine wp_region_assert (listV [isV (.slice Af (all.length + 4) cf), isV (.string (strOf (frameL all))), isV (Value.slice A' all.length c'), ByteRes (frameL all), isV (.string (strOf (frameL all))), isV (.bool false), isV (.bool false), isV (.int .i64 0), isV (.bool false), isV (.bool false), isV (.bool false), isV (.slice Ax all.length cx), isV (.string (strOf all)), isV (Value.slice A' all.length c'), isV (.string (strOf all)), isV (.bool false), isV (.bool false)]) (by kernel_rfl) (by kernel_rfl) (listV_stable ?_) ?_ ?_
  · exact ⟨isV_stable _, isV_stable _, isV_stable _, ByteRes_stable _, isV_stable _, isV_stable _, isV_stable _, isV_stable _, isV_stable _, isV_stable _, isV_stable _, isV_stable _, isV_stable _, isV_stable _, isV_stable _, isV_stable _, isV_stable _, trivial⟩
  refine ⟨fun vs wk hbk hd => ?_, fun vs wk hbk hd => ?_, fun vs wk hbk hd => ?_, fun vs wk hbk hd => ?_, fun vs wk hbk hd => ?_, fun vs wk hbk hd => ?_, fun vs wk hbk hd => ?_, fun vs wk hbk hd => ?_, fun vs wk hbk hd => ?_, fun vs wk hbk hd => ?_, fun vs wk hbk hd => ?_, fun vs wk hbk hd => ?_, fun vs wk hbk hd => ?_, fun vs wk hbk hd => ?_, fun vs wk hbk hd => ?_, fun vs wk hbk hd => ?_, fun vs wk hbk hd => ?_, trivial⟩
  -- 0: Op.move t7
  · clear hd
    go_wp2
    exact ⟨rfl, rfl, rfl, Below.refl _ _⟩
  -- 1: Op.convert 23 9 t36
  · simp only [Act.put, List.setIfInBounds_toArray, List.set_cons_zero, List.set_cons_succ]
    have e0 : vs 0 = .slice Af (all.length + 4) cf := hd 0 (by kernel_rfl)
    have s1 := conv_str (all.length + 4) cf HFL.out.symm (HBF4.out.lift (undrew hbk) (undrew hbk).size)
    clear hd
    go_wp2
    first | exact ⟨rfl, rfl, rfl, Below.refl _ _⟩ | exact ⟨rfl, rfl, e0, Below.refl _ _⟩
  -- 2: Op.move t5
  · simp only [Act.put, List.setIfInBounds_toArray, List.set_cons_zero, List.set_cons_succ, Nat.reduceAdd]
    clear hd
    go_wp2
    exact ⟨rfl, rfl, rfl, Below.refl _ _⟩
  -- 3: Op.call { value (Operand.func 17), args := #[t38], argTypes := #[23] }
  · simp only [Act.put, List.setIfInBounds_toArray, List.set_cons_zero, List.set_cons_succ, Nat.reduceAdd]
    have e2 : vs 2 = Value.slice A' all.length c' := hd 2 (by kernel_rfl)
    clear hd
    go_wp2_with fail
    refine (refFrame_any all A' all.length c' u4.heap.size wk rfl (by omega) (HB4.out.lift (undrew hbk) (Nat.le_refl _))).mono ?_
    rintro e w' ⟨v, rfl, ho, hbe⟩
    have hbr := own_bytes ho
    clear ho
    go_wp2
    exact ⟨rfl, rfl, hbr, hbe⟩
  -- 4: Op.convert 23 9 t39
  · simp only [Act.put, List.setIfInBounds_toArray, List.set_cons_zero, List.set_cons_succ, Nat.reduceAdd]
    obtain ⟨A3, c3, e3, hc3, hb3⟩ := (show (ByteRes (frameL all)) (vs 3) wk from hd 3 (by kernel_rfl))
    have s1 := conv_str (frameL all).length c3 rfl hb3
    clear hd
    go_wp2
    exact ⟨rfl, rfl, rfl, Below.refl _ _⟩
  -- 5: Op.binOp BinOp.neq 9 t37 t40 9
  · simp only [Act.put, List.setIfInBounds_toArray, List.set_cons_zero, List.set_cons_succ, Nat.reduceAdd]
    have e1 : vs 1 = .string (strOf (frameL all)) := hd 1 (by kernel_rfl)
    have e4 : vs 4 = .string (strOf (frameL all)) := hd 4 (by kernel_rfl)
    clear hd
    go_wp2
    first | exact ⟨rfl, rfl, rfl, Below.refl _ _⟩ | exact ⟨rfl, rfl, e4, Below.refl _ _⟩ | exact ⟨rfl, rfl, e1, Below.refl _ _⟩
  -- 6: Op.move t41
  · simp only [Act.put, List.setIfInBounds_toArray, List.set_cons_zero, List.set_cons_succ, Nat.reduceAdd]
    have e5 : vs 5 = .bool false := hd 5 (by kernel_rfl)
    clear hd
    go_wp2
    first | exact ⟨rfl, rfl, rfl, Below.refl _ _⟩ | exact ⟨rfl, rfl, e5, Below.refl _ _⟩
  -- 7: Op.move t9
  · simp only [Act.put, List.setIfInBounds_toArray, List.set_cons_zero, List.set_cons_succ, Nat.reduceAdd]
    have e6 : vs 6 = .bool false := hd 6 (by kernel_rfl)
    clear hd
    go_wp2
    first | exact ⟨rfl, rfl, rfl, Below.refl _ _⟩ | exact ⟨rfl, rfl, e6, Below.refl _ _⟩
  -- 8: Op.binOp BinOp.neq 36 t43 (const (0:i64)) 36
  · simp only [Act.put, List.setIfInBounds_toArray, List.set_cons_zero, List.set_cons_succ, Nat.reduceAdd]
    have e7 : vs 7 = .int .i64 0 := hd 7 (by kernel_rfl)
    have e6 : vs 6 = .bool false := hd 6 (by kernel_rfl)
    clear hd
    go_wp2
    first | exact ⟨rfl, rfl, rfl, Below.refl _ _⟩ | exact ⟨rfl, rfl, e6, Below.refl _ _⟩ | exact ⟨rfl, rfl, e7, Below.refl _ _⟩
  -- 9: Op.pick t42 (const (Value.bool true)) t44
  · simp only [Act.put, List.setIfInBounds_toArray, List.set_cons_zero, List.set_cons_succ, Nat.reduceAdd]
    have e6 : vs 6 = .bool false := hd 6 (by kernel_rfl)
    have e8 : vs 8 = .bool false := hd 8 (by kernel_rfl)
    clear hd
    go_wp2
    first | exact ⟨rfl, rfl, rfl, Below.refl _ _⟩ | exact ⟨rfl, rfl, e8, Below.refl _ _⟩ | exact ⟨rfl, rfl, e6, Below.refl _ _⟩
  -- 10: Op.move t45
  · simp only [Act.put, List.setIfInBounds_toArray, List.set_cons_zero, List.set_cons_succ, Nat.reduceAdd]
    have e9 : vs 9 = .bool false := hd 9 (by kernel_rfl)
    clear hd
    go_wp2
    first | exact ⟨rfl, rfl, rfl, Below.refl _ _⟩ | exact ⟨rfl, rfl, e9, Below.refl _ _⟩
  -- 11: Op.move t8
  · simp only [Act.put, List.setIfInBounds_toArray, List.set_cons_zero, List.set_cons_succ, Nat.reduceAdd]
    have e10 : vs 10 = .bool false := hd 10 (by kernel_rfl)
    clear hd
    go_wp2
    first | exact ⟨rfl, rfl, rfl, Below.refl _ _⟩ | exact ⟨rfl, rfl, e10, Below.refl _ _⟩
  -- 12: Op.convert 23 9 t47
  · simp only [Act.put, List.setIfInBounds_toArray, List.set_cons_zero, List.set_cons_succ, Nat.reduceAdd]
    have e11 : vs 11 = .slice Ax all.length cx := hd 11 (by kernel_rfl)
    have e10 : vs 10 = .bool false := hd 10 (by kernel_rfl)
    have s1 := conv_str all.length cx rfl (HBX.out.lift (undrew hbk) (undrew hbk).size)
    clear hd
    go_wp2
    first | exact ⟨rfl, rfl, rfl, Below.refl _ _⟩ | exact ⟨rfl, rfl, e10, Below.refl _ _⟩ | exact ⟨rfl, rfl, e11, Below.refl _ _⟩
  -- 13: Op.move t5
  · simp only [Act.put, List.setIfInBounds_toArray, List.set_cons_zero, List.set_cons_succ, Nat.reduceAdd]
    have e10 : vs 10 = .bool false := hd 10 (by kernel_rfl)
    clear hd
    go_wp2
    first | exact ⟨rfl, rfl, rfl, Below.refl _ _⟩ | exact ⟨rfl, rfl, e10, Below.refl _ _⟩
  -- 14: Op.convert 23 9 t49
  · simp only [Act.put, List.setIfInBounds_toArray, List.set_cons_zero, List.set_cons_succ, Nat.reduceAdd]
    have e13 : vs 13 = Value.slice A' all.length c' := hd 13 (by kernel_rfl)
    have e10 : vs 10 = .bool false := hd 10 (by kernel_rfl)
    have s1 := conv_str all.length c' rfl (HB4.out.lift (undrew hbk) (undrew hbk).size)
    clear hd
    go_wp2
    first | exact ⟨rfl, rfl, rfl, Below.refl _ _⟩ | exact ⟨rfl, rfl, e10, Below.refl _ _⟩ | exact ⟨rfl, rfl, e13, Below.refl _ _⟩
  -- 15: Op.binOp BinOp.neq 9 t48 t50 9
  · simp only [Act.put, List.setIfInBounds_toArray, List.set_cons_zero, List.set_cons_succ, Nat.reduceAdd]
    have e12 : vs 12 = .string (strOf all) := hd 12 (by kernel_rfl)
    have e14 : vs 14 = .string (strOf all) := hd 14 (by kernel_rfl)
    have e10 : vs 10 = .bool false := hd 10 (by kernel_rfl)
    clear hd
    go_wp2
    first | exact ⟨rfl, rfl, rfl, Below.refl _ _⟩ | exact ⟨rfl, rfl, e10, Below.refl _ _⟩ | exact ⟨rfl, rfl, e14, Below.refl _ _⟩ | exact ⟨rfl, rfl, e12, Below.refl _ _⟩
  -- 16: Op.pick t46 (const (Value.bool true)) t51
  · simp only [Act.put, List.setIfInBounds_toArray, List.set_cons_zero, List.set_cons_succ, Nat.reduceAdd]
    have e10 : vs 10 = .bool false := hd 10 (by kernel_rfl)
    have e15 : vs 15 = .bool false := hd 15 (by kernel_rfl)
    clear hd
    go_wp2
    first | exact ⟨rfl, rfl, rfl, Below.refl _ _⟩ | exact ⟨rfl, rfl, e15, Below.refl _ _⟩ | exact ⟨rfl, rfl, e10, Below.refl _ _⟩
  intro vs wk hbk hd
  simp only [putAll, Act.put, List.setIfInBounds_toArray, List.set_cons_zero, List.set_cons_succ, Nat.reduceAdd]
  have e16 : vs 16 = .bool false := hd 16 (by decide)
  clear hd
  simp only [e16]
  clear e16
  have HE5 := hide (HE4.out.trans ((undrew hbk).mono HE4.out.size))
  have HAb5 := hide ((unhide HAb).lift HE5.out HE5.out.size)
  clear hbk
  go_wp2_with (at_builtin; refine wpList_append_any _ rfl (.tmp 54) (.tmp 55) _ rfl wk.heap.size 5 i0 _ 1 1 Tryd.underlying23 hi0 hz0 hz1 hz2 rfl (by omega) (.slice (some ⟨wk.heap.size, 0, none⟩) 0 0) 0 [] rfl (World.ownsRow_made wk #[] 0 (Nat.le_refl _) (by simp only [maxLen]; omega) rfl) (wk.heap.size + 1) Ab lb.length cb (byts lb) rfl ((Reads.alloc (unhide HAb5) (Nat.le_refl _) _).more (by omega)) byts_one (by simp only [maxLen]; omega) (by omega) (by simp) ?_; intro v7 u7 hown7 hg7 hat7)
  rw [Nat.zero_add, List.nil_append] at hown7
  have hbe7 : Below wk.heap.size wk u7 := (Below.alloc (Below.refl _ _) (Nat.le_refl _) _).grown hg7 (by simp) (fun q hq => by simp [Value.ownBlock] at hq; omega)
  obtain ⟨A7, c7, rfl, hc7, hb7⟩ := own_slice hown7
  have HE7 := hide (HE5.out.trans (hbe7.mono HE5.out.size))
  have HB7 := hide hb7
  have HAb7 := hide ((unhide HAb5).lift hbe7 hbe7.size)
  clear hown7 hg7 hat7 hbe7 hb7
  by_cases h4 : lb.length < 4
  · refine (open_short A7 lb.length c7 u7 h4).mono ?_
    rintro e u8 ⟨rfl, hbe8⟩
    have HE8 := hide (HE7.out.trans (hbe8.mono HE7.out.size))
    clear hbe8
    go_wp2
    go_ret
    exact ⟨rfl, HE8.out⟩
  · obtain ⟨k, hk⟩ : ∃ k, lb.length = k + 4 := ⟨lb.length - 4, by omega⟩
    have HOP := hide (open_long lb A7 (k + 4) c7 k u7 rfl hk (by omega) hc7 HB7.out ((unhide HH).below HE7.out))
    have HK := hide hk
    rw [hk]
    have hkb : k ≤ 2996 := by omega
    have hkcb : k ≤ cb := by omega
    clear hk
    refine (unhide HOP).mono ?_
    rintro e u8 hop
    have hs1 := fun W => cut_front8 Ab (k + 4) cb k hkcb W
    have HT := hide (BytesAt.take (unhide HAb7) k)
    have ltk : (lb.take k).length = k := by rw [List.length_take, HK.out]; omega
    have LTK := hide ltk
    have hfe := framed_eq lb k HK.out
    cases hfr : framed lb with
    | true =>
      obtain ⟨v8, rfl, hown8, hbe8⟩ := hop.1 hfr
      rw [hfr] at hfe
      have HFE := hide (of_decide_eq_true hfe.symm)
      obtain ⟨A8, c8, rfl, hc8, hb8⟩ := own_slice hown8
      have HB8 := hide hb8
      have HE8 := hide (HE7.out.trans (hbe8.mono HE7.out.size))
      have HAb8 := hide ((unhide HAb7).lift hbe8 hbe8.size)
      have HT8 := hide ((unhide HT).lift hbe8 hbe8.size)
      rw [ltk]
      clear hop HOP hbe8 ltk hfr hfe hb8 hown8
      go_wp2_with fail
      refine wp_region_assert (listV [isV (.slice Ab (k + 4) cb), isV (.slice Ab (k + 4) cb), isV (.int .i64 ((k : Int) + 4)), isV (.int .i64 (k : Int)), isV (.slice Ab k cb), ByteRes (frameL (lb.take k)), isV (.string (strOf (frameL (lb.take k)))), isV (.slice Ab (k + 4) cb), isV (.string (strOf lb)), isV (.bool false)]) (by kernel_rfl) (by kernel_rfl) (listV_stable ?_) ?_ ?_
      · exact ⟨isV_stable _, isV_stable _, isV_stable _, isV_stable _, isV_stable _, ByteRes_stable _, isV_stable _, isV_stable _, isV_stable _, isV_stable _, trivial⟩
      refine ⟨fun vs wk hbk hd => ?_, fun vs wk hbk hd => ?_, fun vs wk hbk hd => ?_, fun vs wk hbk hd => ?_, fun vs wk hbk hd => ?_, fun vs wk hbk hd => ?_, fun vs wk hbk hd => ?_, fun vs wk hbk hd => ?_, fun vs wk hbk hd => ?_, fun vs wk hbk hd => ?_, trivial⟩
      -- 0: Op.move t1
      · clear hd
        go_wp2
        exact ⟨rfl, rfl, rfl, Below.refl _ _⟩
      -- 1: Op.move t1
      · simp only [Act.put, List.setIfInBounds_toArray, List.set_cons_zero, List.set_cons_succ]
        clear hd
        go_wp2
        exact ⟨rfl, rfl, rfl, Below.refl _ _⟩
      -- 2: Op.call { builtin len, args := #[t71], argTypes := #[23] }
      · simp only [Act.put, List.setIfInBounds_toArray, List.set_cons_zero, List.set_cons_succ, Nat.reduceAdd]
        have e1 : vs 1 = .slice Ab (k + 4) cb := hd 1 (by kernel_rfl)
        clear hd
        go_wp2
        first | exact ⟨rfl, rfl, rfl, Below.refl _ _⟩ | exact ⟨rfl, rfl, e1, Below.refl _ _⟩
      -- 3: Op.binOp BinOp.sub 3 t72 (const (4:i64)) 3
      · simp only [Act.put, List.setIfInBounds_toArray, List.set_cons_zero, List.set_cons_succ, Nat.reduceAdd]
        have e2 : vs 2 = .int .i64 ((k : Int) + 4) := hd 2 (by kernel_rfl)
        clear hd
        go_wp2
        first | exact ⟨rfl, rfl, rfl, Below.refl _ _⟩ | exact ⟨rfl, rfl, e2, Below.refl _ _⟩
      -- 4: Op.slice 23 t70 none (some t73) none
      · simp only [Act.put, List.setIfInBounds_toArray, List.set_cons_zero, List.set_cons_succ, Nat.reduceAdd]
        have e0 : vs 0 = .slice Ab (k + 4) cb := hd 0 (by kernel_rfl)
        have e3 : vs 3 = .int .i64 (k : Int) := hd 3 (by kernel_rfl)
        clear hd
        go_wp2
        first | exact ⟨rfl, rfl, rfl, Below.refl _ _⟩ | exact ⟨rfl, rfl, e3, Below.refl _ _⟩ | exact ⟨rfl, rfl, e0, Below.refl _ _⟩
      -- 5: Op.call { value (Operand.func 17), args := #[t74], argTypes := #[23] }
      · simp only [Act.put, List.setIfInBounds_toArray, List.set_cons_zero, List.set_cons_succ, Nat.reduceAdd]
        have e4 : vs 4 = .slice Ab k cb := hd 4 (by kernel_rfl)
        clear hd
        go_wp2_with fail
        refine (refFrame_any (lb.take k) Ab k cb u8.heap.size wk LTK.out.symm (by rw [LTK.out]; omega) (HT8.out.lift (undrew hbk) (Nat.le_refl _))).mono ?_
        rintro e w' ⟨v, rfl, ho, hbe⟩
        have hbr := own_bytes ho
        clear ho
        go_wp2
        exact ⟨rfl, rfl, hbr, hbe⟩
      -- 6: Op.convert 23 9 t75
      · simp only [Act.put, List.setIfInBounds_toArray, List.set_cons_zero, List.set_cons_succ, Nat.reduceAdd]
        obtain ⟨A5, c5, e5, hc5, hb5⟩ := (show (ByteRes (frameL (lb.take k))) (vs 5) wk from hd 5 (by kernel_rfl))
        have s1 := conv_str (frameL (lb.take k)).length c5 rfl hb5
        clear hd
        go_wp2
        exact ⟨rfl, rfl, rfl, Below.refl _ _⟩
      -- 7: Op.move t1
      · simp only [Act.put, List.setIfInBounds_toArray, List.set_cons_zero, List.set_cons_succ, Nat.reduceAdd]
        clear hd
        go_wp2
        exact ⟨rfl, rfl, rfl, Below.refl _ _⟩
      -- 8: Op.convert 23 9 t77
      · simp only [Act.put, List.setIfInBounds_toArray, List.set_cons_zero, List.set_cons_succ, Nat.reduceAdd]
        have e7 : vs 7 = .slice Ab (k + 4) cb := hd 7 (by kernel_rfl)
        have s1 := conv_str (k + 4) cb HK.out.symm (HAb8.out.lift (undrew hbk) (undrew hbk).size)
        clear hd
        go_wp2
        first | exact ⟨rfl, rfl, rfl, Below.refl _ _⟩ | exact ⟨rfl, rfl, e7, Below.refl _ _⟩
      -- 9: Op.binOp BinOp.neq 9 t76 t78 9
      · simp only [Act.put, List.setIfInBounds_toArray, List.set_cons_zero, List.set_cons_succ, Nat.reduceAdd]
        have e6 : vs 6 = .string (strOf (frameL (lb.take k))) := hd 6 (by kernel_rfl)
        have e8 : vs 8 = .string (strOf lb) := hd 8 (by kernel_rfl)
        have h9 : strOf (frameL (lb.take k)) = strOf lb := by rw [HFE.out]
        rw [h9] at e6
        clear hd
        go_wp2
        first | exact ⟨rfl, rfl, rfl, Below.refl _ _⟩ | exact ⟨rfl, rfl, e8, Below.refl _ _⟩ | exact ⟨rfl, rfl, e6, Below.refl _ _⟩
      intro vs wk hbk hd
      simp only [putAll, Act.put, List.setIfInBounds_toArray, List.set_cons_zero, List.set_cons_succ, Nat.reduceAdd]
      have e9 : vs 9 = .bool false := hd 9 (by decide)
      clear hd
      simp only [e9]
      clear e9
      have HE9 := hide (HE8.out.trans ((undrew hbk).mono HE8.out.size))
      have HB9 := hide (HB8.out.lift (undrew hbk) (undrew hbk).size)
      have HT9 := hide (HT8.out.lift (undrew hbk) (undrew hbk).size)
      clear hbk
      go_wp2_with fail
      refine wp_region_assert (listV [isV (.int .i64 0), isV (.bool true), isV (.bool true), isV (.slice A8 k c8), isV (.string (strOf (lb.take k))), isV (.slice Ab (k + 4) cb), isV (.slice Ab (k + 4) cb), isV (.int .i64 ((k : Int) + 4)), isV (.int .i64 (k : Int)), isV (.slice Ab k cb), isV (.string (strOf (lb.take k))), isV (.bool true), isV (.bool true), isV (.bool true)]) (by kernel_rfl) (by kernel_rfl) (listV_stable ?_) ?_ ?_
      · exact ⟨isV_stable _, isV_stable _, isV_stable _, isV_stable _, isV_stable _, isV_stable _, isV_stable _, isV_stable _, isV_stable _, isV_stable _, isV_stable _, isV_stable _, isV_stable _, isV_stable _, trivial⟩
      refine ⟨fun vs2 wk2 hbk2 hd => ?_, fun vs2 wk2 hbk2 hd => ?_, fun vs2 wk2 hbk2 hd => ?_, fun vs2 wk2 hbk2 hd => ?_, fun vs2 wk2 hbk2 hd => ?_, fun vs2 wk2 hbk2 hd => ?_, fun vs2 wk2 hbk2 hd => ?_, fun vs2 wk2 hbk2 hd => ?_, fun vs2 wk2 hbk2 hd => ?_, fun vs2 wk2 hbk2 hd => ?_, fun vs2 wk2 hbk2 hd => ?_, fun vs2 wk2 hbk2 hd => ?_, fun vs2 wk2 hbk2 hd => ?_, fun vs2 wk2 hbk2 hd => ?_, trivial⟩
      -- 0: Op.move t11
      · clear hd
        go_wp2
        exact ⟨rfl, rfl, rfl, Below.refl _ _⟩
      -- 1: Op.binOp BinOp.eql 36 t87 (const (0:i64)) 36
      · simp only [Act.put, List.setIfInBounds_toArray, List.set_cons_zero, List.set_cons_succ]
        have e0 : vs2 0 = .int .i64 0 := hd 0 (by kernel_rfl)
        clear hd
        go_wp2
        first | exact ⟨rfl, rfl, rfl, Below.refl _ _⟩ | exact ⟨rfl, rfl, e0, Below.refl _ _⟩
      -- 2: Op.move t88
      · simp only [Act.put, List.setIfInBounds_toArray, List.set_cons_zero, List.set_cons_succ, Nat.reduceAdd]
        have e1 : vs2 1 = .bool true := hd 1 (by kernel_rfl)
        clear hd
        go_wp2
        first | exact ⟨rfl, rfl, rfl, Below.refl _ _⟩ | exact ⟨rfl, rfl, e1, Below.refl _ _⟩
      -- 3: Op.move t10
      · simp only [Act.put, List.setIfInBounds_toArray, List.set_cons_zero, List.set_cons_succ, Nat.reduceAdd]
        have e2 : vs2 2 = .bool true := hd 2 (by kernel_rfl)
        clear hd
        go_wp2
        first | exact ⟨rfl, rfl, rfl, Below.refl _ _⟩ | exact ⟨rfl, rfl, e2, Below.refl _ _⟩
      -- 4: Op.convert 23 9 t90
      · simp only [Act.put, List.setIfInBounds_toArray, List.set_cons_zero, List.set_cons_succ, Nat.reduceAdd]
        have e3 : vs2 3 = .slice A8 k c8 := hd 3 (by kernel_rfl)
        have e2 : vs2 2 = .bool true := hd 2 (by kernel_rfl)
        have s1 := conv_str k c8 LTK.out.symm (HB9.out.lift (undrew hbk2) (undrew hbk2).size)
        clear hd
        go_wp2
        first | exact ⟨rfl, rfl, rfl, Below.refl _ _⟩ | exact ⟨rfl, rfl, e2, Below.refl _ _⟩ | exact ⟨rfl, rfl, e3, Below.refl _ _⟩
      -- 5: Op.move t1
      · simp only [Act.put, List.setIfInBounds_toArray, List.set_cons_zero, List.set_cons_succ, Nat.reduceAdd]
        have e2 : vs2 2 = .bool true := hd 2 (by kernel_rfl)
        clear hd
        go_wp2
        first | exact ⟨rfl, rfl, rfl, Below.refl _ _⟩ | exact ⟨rfl, rfl, e2, Below.refl _ _⟩
      -- 6: Op.move t1
      · simp only [Act.put, List.setIfInBounds_toArray, List.set_cons_zero, List.set_cons_succ, Nat.reduceAdd]
        have e2 : vs2 2 = .bool true := hd 2 (by kernel_rfl)
        clear hd
        go_wp2
        first | exact ⟨rfl, rfl, rfl, Below.refl _ _⟩ | exact ⟨rfl, rfl, e2, Below.refl _ _⟩
      -- 7: Op.call { builtin len, args := #[t93], argTypes := #[23] }
      · simp only [Act.put, List.setIfInBounds_toArray, List.set_cons_zero, List.set_cons_succ, Nat.reduceAdd]
        have e6 : vs2 6 = .slice Ab (k + 4) cb := hd 6 (by kernel_rfl)
        have e2 : vs2 2 = .bool true := hd 2 (by kernel_rfl)
        clear hd
        go_wp2
        first | exact ⟨rfl, rfl, rfl, Below.refl _ _⟩ | exact ⟨rfl, rfl, e2, Below.refl _ _⟩ | exact ⟨rfl, rfl, e6, Below.refl _ _⟩
      -- 8: Op.binOp BinOp.sub 3 t94 (const (4:i64)) 3
      · simp only [Act.put, List.setIfInBounds_toArray, List.set_cons_zero, List.set_cons_succ, Nat.reduceAdd]
        have e7 : vs2 7 = .int .i64 ((k : Int) + 4) := hd 7 (by kernel_rfl)
        have e2 : vs2 2 = .bool true := hd 2 (by kernel_rfl)
        clear hd
        go_wp2
        first | exact ⟨rfl, rfl, rfl, Below.refl _ _⟩ | exact ⟨rfl, rfl, e2, Below.refl _ _⟩ | exact ⟨rfl, rfl, e7, Below.refl _ _⟩
      -- 9: Op.slice 23 t92 none (some t95) none
      · simp only [Act.put, List.setIfInBounds_toArray, List.set_cons_zero, List.set_cons_succ, Nat.reduceAdd]
        have e5 : vs2 5 = .slice Ab (k + 4) cb := hd 5 (by kernel_rfl)
        have e8 : vs2 8 = .int .i64 (k : Int) := hd 8 (by kernel_rfl)
        have e2 : vs2 2 = .bool true := hd 2 (by kernel_rfl)
        clear hd
        go_wp2
        first | exact ⟨rfl, rfl, rfl, Below.refl _ _⟩ | exact ⟨rfl, rfl, e2, Below.refl _ _⟩ | exact ⟨rfl, rfl, e8, Below.refl _ _⟩ | exact ⟨rfl, rfl, e5, Below.refl _ _⟩
      -- 10: Op.convert 23 9 t96
      · simp only [Act.put, List.setIfInBounds_toArray, List.set_cons_zero, List.set_cons_succ, Nat.reduceAdd]
        have e9 : vs2 9 = .slice Ab k cb := hd 9 (by kernel_rfl)
        have e2 : vs2 2 = .bool true := hd 2 (by kernel_rfl)
        have s1 := conv_str k cb LTK.out.symm (HT9.out.lift (undrew hbk2) (undrew hbk2).size)
        clear hd
        go_wp2
        first | exact ⟨rfl, rfl, rfl, Below.refl _ _⟩ | exact ⟨rfl, rfl, e2, Below.refl _ _⟩ | exact ⟨rfl, rfl, e9, Below.refl _ _⟩
      -- 11: Op.binOp BinOp.eql 9 t91 t97 9
      · simp only [Act.put, List.setIfInBounds_toArray, List.set_cons_zero, List.set_cons_succ, Nat.reduceAdd]
        have e4 : vs2 4 = .string (strOf (lb.take k)) := hd 4 (by kernel_rfl)
        have e10 : vs2 10 = .string (strOf (lb.take k)) := hd 10 (by kernel_rfl)
        have e2 : vs2 2 = .bool true := hd 2 (by kernel_rfl)
        clear hd
        go_wp2
        first | exact ⟨rfl, rfl, rfl, Below.refl _ _⟩ | exact ⟨rfl, rfl, e2, Below.refl _ _⟩ | exact ⟨rfl, rfl, e10, Below.refl _ _⟩ | exact ⟨rfl, rfl, e4, Below.refl _ _⟩
      -- 12: Op.pick t89 t98 (const (Value.bool false))
      · simp only [Act.put, List.setIfInBounds_toArray, List.set_cons_zero, List.set_cons_succ, Nat.reduceAdd]
        have e2 : vs2 2 = .bool true := hd 2 (by kernel_rfl)
        have e11 : vs2 11 = .bool true := hd 11 (by kernel_rfl)
        clear hd
        go_wp2
        first | exact ⟨rfl, rfl, rfl, Below.refl _ _⟩ | exact ⟨rfl, rfl, e11, Below.refl _ _⟩ | exact ⟨rfl, rfl, e2, Below.refl _ _⟩
      -- 13: Op.assign t99
      · simp only [Act.put, List.setIfInBounds_toArray, List.set_cons_zero, List.set_cons_succ, Nat.reduceAdd]
        have e12 : vs2 12 = .bool true := hd 12 (by kernel_rfl)
        clear hd
        go_wp2
        first | exact ⟨rfl, rfl, rfl, Below.refl _ _⟩ | exact ⟨rfl, rfl, e12, Below.refl _ _⟩
      intro vs2 wk2 hbk2 hd
      simp only [putAll, Act.put, List.setIfInBounds_toArray, List.set_cons_zero, List.set_cons_succ, Nat.reduceAdd]
      have e13 : vs2 13 = .bool true := hd 13 (by decide)
      clear hd
      simp only [e13]
      clear e13
      have HE10 := hide (HE9.out.trans ((undrew hbk2).mono HE9.out.size))
      go_wp2
      go_ret
      exact ⟨rfl, HE10.out⟩
    | false =>
      obtain ⟨rfl, hbe8⟩ := hop.2 hfr
      rw [hfr] at hfe
      have HFE := hide (of_decide_eq_false hfe.symm)
      have HE8 := hide (HE7.out.trans (hbe8.mono HE7.out.size))
      have HAb8 := hide ((unhide HAb7).lift hbe8 hbe8.size)
      have HT8 := hide ((unhide HT).lift hbe8 hbe8.size)
      clear hop HOP hbe8 ltk hfr hfe
      go_wp2_with fail
      refine wp_region_assert (listV [isV (.slice Ab (k + 4) cb), isV (.slice Ab (k + 4) cb), isV (.int .i64 ((k : Int) + 4)), isV (.int .i64 (k : Int)), isV (.slice Ab k cb), ByteRes (frameL (lb.take k)), isV (.string (strOf (frameL (lb.take k)))), isV (.slice Ab (k + 4) cb), isV (.string (strOf lb)), isV (.bool true)]) (by kernel_rfl) (by kernel_rfl) (listV_stable ?_) ?_ ?_
      · exact ⟨isV_stable _, isV_stable _, isV_stable _, isV_stable _, isV_stable _, ByteRes_stable _, isV_stable _, isV_stable _, isV_stable _, isV_stable _, trivial⟩
      refine ⟨fun vs wk hbk hd => ?_, fun vs wk hbk hd => ?_, fun vs wk hbk hd => ?_, fun vs wk hbk hd => ?_, fun vs wk hbk hd => ?_, fun vs wk hbk hd => ?_, fun vs wk hbk hd => ?_, fun vs wk hbk hd => ?_, fun vs wk hbk hd => ?_, fun vs wk hbk hd => ?_, trivial⟩
      -- 0: Op.move t1
      · clear hd
        go_wp2
        exact ⟨rfl, rfl, rfl, Below.refl _ _⟩
      -- 1: Op.move t1
      · simp only [Act.put, List.setIfInBounds_toArray, List.set_cons_zero, List.set_cons_succ]
        clear hd
        go_wp2
        exact ⟨rfl, rfl, rfl, Below.refl _ _⟩
      -- 2: Op.call { builtin len, args := #[t71], argTypes := #[23] }
      · simp only [Act.put, List.setIfInBounds_toArray, List.set_cons_zero, List.set_cons_succ, Nat.reduceAdd]
        have e1 : vs 1 = .slice Ab (k + 4) cb := hd 1 (by kernel_rfl)
        clear hd
        go_wp2
        first | exact ⟨rfl, rfl, rfl, Below.refl _ _⟩ | exact ⟨rfl, rfl, e1, Below.refl _ _⟩
      -- 3: Op.binOp BinOp.sub 3 t72 (const (4:i64)) 3
      · simp only [Act.put, List.setIfInBounds_toArray, List.set_cons_zero, List.set_cons_succ, Nat.reduceAdd]
        have e2 : vs 2 = .int .i64 ((k : Int) + 4) := hd 2 (by kernel_rfl)
        clear hd
        go_wp2
        first | exact ⟨rfl, rfl, rfl, Below.refl _ _⟩ | exact ⟨rfl, rfl, e2, Below.refl _ _⟩
      -- 4: Op.slice 23 t70 none (some t73) none
      · simp only [Act.put, List.setIfInBounds_toArray, List.set_cons_zero, List.set_cons_succ, Nat.reduceAdd]
        have e0 : vs 0 = .slice Ab (k + 4) cb := hd 0 (by kernel_rfl)
        have e3 : vs 3 = .int .i64 (k : Int) := hd 3 (by kernel_rfl)
        clear hd
        go_wp2
        first | exact ⟨rfl, rfl, rfl, Below.refl _ _⟩ | exact ⟨rfl, rfl, e3, Below.refl _ _⟩ | exact ⟨rfl, rfl, e0, Below.refl _ _⟩
      -- 5: Op.call { value (Operand.func 17), args := #[t74], argTypes := #[23] }
      · simp only [Act.put, List.setIfInBounds_toArray, List.set_cons_zero, List.set_cons_succ, Nat.reduceAdd]
        have e4 : vs 4 = .slice Ab k cb := hd 4 (by kernel_rfl)
        clear hd
        go_wp2_with fail
        refine (refFrame_any (lb.take k) Ab k cb u8.heap.size wk LTK.out.symm (by rw [LTK.out]; omega) (HT8.out.lift (undrew hbk) (Nat.le_refl _))).mono ?_
        rintro e w' ⟨v, rfl, ho, hbe⟩
        have hbr := own_bytes ho
        clear ho
        go_wp2
        exact ⟨rfl, rfl, hbr, hbe⟩
      -- 6: Op.convert 23 9 t75
      · simp only [Act.put, List.setIfInBounds_toArray, List.set_cons_zero, List.set_cons_succ, Nat.reduceAdd]
        obtain ⟨A5, c5, e5, hc5, hb5⟩ := (show (ByteRes (frameL (lb.take k))) (vs 5) wk from hd 5 (by kernel_rfl))
        have s1 := conv_str (frameL (lb.take k)).length c5 rfl hb5
        clear hd
        go_wp2
        exact ⟨rfl, rfl, rfl, Below.refl _ _⟩
      -- 7: Op.move t1
      · simp only [Act.put, List.setIfInBounds_toArray, List.set_cons_zero, List.set_cons_succ, Nat.reduceAdd]
        clear hd
        go_wp2
        exact ⟨rfl, rfl, rfl, Below.refl _ _⟩
      -- 8: Op.convert 23 9 t77
      · simp only [Act.put, List.setIfInBounds_toArray, List.set_cons_zero, List.set_cons_succ, Nat.reduceAdd]
        have e7 : vs 7 = .slice Ab (k + 4) cb := hd 7 (by kernel_rfl)
        have s1 := conv_str (k + 4) cb HK.out.symm (HAb8.out.lift (undrew hbk) (undrew hbk).size)
        clear hd
        go_wp2
        first | exact ⟨rfl, rfl, rfl, Below.refl _ _⟩ | exact ⟨rfl, rfl, e7, Below.refl _ _⟩
      -- 9: Op.binOp BinOp.neq 9 t76 t78 9
      · simp only [Act.put, List.setIfInBounds_toArray, List.set_cons_zero, List.set_cons_succ, Nat.reduceAdd]
        have e6 : vs 6 = .string (strOf (frameL (lb.take k))) := hd 6 (by kernel_rfl)
        have e8 : vs 8 = .string (strOf lb) := hd 8 (by kernel_rfl)
        have h9 := beq_eq_false_iff_ne.mpr (str_ne HFE.out)
        clear hd
        go_wp2
        first | exact ⟨rfl, rfl, rfl, Below.refl _ _⟩ | exact ⟨rfl, rfl, e8, Below.refl _ _⟩ | exact ⟨rfl, rfl, e6, Below.refl _ _⟩
      intro vs wk hbk hd
      simp only [putAll, Act.put, List.setIfInBounds_toArray, List.set_cons_zero, List.set_cons_succ, Nat.reduceAdd]
      have e9 : vs 9 = .bool true := hd 9 (by decide)
      clear hd
      simp only [e9]
      clear e9
      have HE9 := hide (HE8.out.trans ((undrew hbk).mono HE8.out.size))
      clear hbk
      go_wp2
      go_ret
      exact ⟨rfl, HE9.out⟩

theorem crcFrames_no (ls : List (List UInt8)) (A Ab : Option Addr) (n c nb cb : Nat) (w : World) (hn : n = ls.length) (hno : fits ls = false ∨ (fits ls = true ∧ 3000 < nb)) (hA : RowsAt w w.heap.size A ls) (hh : HalfAt w) :
    Calls Tryd.prog 8 #[.slice A n c, .slice Ab nb cb] w fun e w' => e = .returned (.bool true) ∧ Below w.heap.size w w' := by
  subst hn
  have HH := hide hh
  rcases hno with hf | ⟨hf, h3⟩
  · have HJ := hide (joined_no ls A ls.length c w rfl hf hA)
    clear hA hh hf
    go_enter Tryd.func8, Tryd.ntmps8
    go_wp2_with fail
    refine (unhide HJ).mono ?_
    rintro e w1 ⟨rfl, hbe⟩
    have HE := hide hbe
    clear hbe HJ
    go_wp2_with fail
    refine (awake12 w1 ((unhide HH).below (unhide HE))).mono ?_
    rintro e w2 ⟨rfl, hbe2⟩
    have HE2 := hide (HE.out.trans (hbe2.mono HE.out.size))
    clear hbe2
    go_wp2_with fail
    refine (awake12 w2 ((unhide HH).below (unhide HE2))).mono ?_
    rintro e w3 ⟨rfl, hbe3⟩
    have HE3 := hide (HE2.out.trans (hbe3.mono HE2.out.size))
    clear hbe3
    go_wp2
    go_ret
    exact ⟨rfl, HE3.out⟩
  · obtain ⟨hl21, hl500⟩ := fits_yes hf
    have HJ := hide (joined_yes ls A ls.length c w rfl hl21 hl500 hA)
    have h3000 : decide ((3000 : Int) < (nb : Int)) = true := by simp; omega
    clear hA hh hf hl500 hl21 h3
    go_enter Tryd.func8, Tryd.ntmps8
    go_wp2_with fail
    refine (unhide HJ).mono ?_
    rintro e w1 ⟨A', c', rfl, hc', hb', hbe⟩
    have HE := hide hbe
    clear hbe HJ hb'
    go_wp2_with fail
    refine (awake12 w1 ((unhide HH).below (unhide HE))).mono ?_
    rintro e w2 ⟨rfl, hbe2⟩
    have HE2 := hide (HE.out.trans (hbe2.mono HE.out.size))
    clear hbe2
    go_wp2_with fail
    refine (awake12 w2 ((unhide HH).below (unhide HE2))).mono ?_
    rintro e w3 ⟨rfl, hbe3⟩
    have HE3 := hide (HE2.out.trans (hbe3.mono HE2.out.size))
    clear hbe3
    go_wp2
    go_ret
    exact ⟨rfl, HE3.out⟩
end Go.Proofs.YtenhjnicadjbaaaDoor
