/-
  The walk of icehouselaw14.PageCuts. Conditions: the argument reads as a slice of bytes; the table half reads as the text lays it.
-/
import Derived.Test.YtenhjnicadjbaaaDoorRefSectors
namespace Go.Proofs.YtenhjnicadjbaaaDoor
open Go Go.RowKit

theorem flat_range (l : List UInt8) : ∀ k, 64 * k ≤ l.length + 63 → ((List.range k).map (secL l)).flatten = l.take (64 * k) ++ List.replicate (64 * k - l.length) 0
  | 0, _ => by simp
  | k + 1, h => by
    rw [List.range_succ, List.map_append, List.flatten_append, flat_range l k (by omega)]
    simp only [List.map_cons, List.map_nil, List.flatten_cons, List.flatten_nil, List.append_nil]
    rw [show 64 * k - l.length = 0 by omega, show 64 * (k + 1) = 64 * k + 64 by omega, List.take_add]
    unfold secL
    rw [show 64 - min 64 (l.length - 64 * k) = 64 * k + 64 - l.length by omega]
    simp
theorem secs_flat (l : List UInt8) : (secs l).flatten = l ++ List.replicate (64 * (secs l).length - l.length) 0 := by
  rw [secs_len]
  unfold secs
  rw [flat_range l _ (by omega), List.take_of_length_le (by omega)]
def RowsRes (ls : List (List UInt8)) (v : Value) (w : World) : Prop := ∃ A c, v = .slice A ls.length c ∧ RowsAt w w.heap.size A ls
theorem RowsRes_stable (ls : List (List UInt8)) : StableV (RowsRes ls) := fun _ _ _ ⟨A, c, e, h⟩ hb => ⟨A, c, e, h.lift hb hb.size⟩

set_option maxRecDepth 100000 in
set_option maxHeartbeats 2000000 in
theorem pageCuts_yes (l : List UInt8) (A : Option Addr) (n c : Nat) (w : World) (hn : n = l.length) (hl : l.length ≤ 3000) (hc : l.length ≤ c) (hA : BytesAt w w.heap.size A l) (hh : HalfAt w) :
    Calls Tryd.prog 9 #[.slice A n c] w fun e w' => e = .returned (.bool true) ∧ Below w.heap.size w w' := by
  subst hn
  obtain ⟨i0, hi0, hz0, hz1, hz2⟩ := info_parts info_u8
  have HA := hide hA
  have HH := hide hh
  have h3000 : decide ((3000 : Int) < (l.length : Int)) = false := decide_eq_false (by omega)
  clear hA hh
  go_enter Tryd.func9, Tryd.ntmps9
  go_wp2_with fail
  refine (awake14 _ (unhide HH)).mono ?_
  rintro e w1 ⟨rfl, hbe⟩
  have HE1 := hide hbe
  have HA1 := hide (HA.out.lift hbe hbe.size)
  clear hbe
  go_wp2_with (at_builtin; refine wpList_append_any _ rfl (.tmp 14) (.tmp 15) _ rfl w1.heap.size 5 i0 _ 1 1 Tryd.underlying23 hi0 hz0 hz1 hz2 rfl (by omega) (.slice (some ⟨w1.heap.size, 0, none⟩) 0 0) 0 [] rfl (World.ownsRow_made w1 #[] 0 (Nat.le_refl _) (by simp only [maxLen]; omega) rfl) (w1.heap.size + 1) A l.length c (byts l) rfl ((Reads.alloc (unhide HA1) (Nat.le_refl _) _).more (by omega)) byts_one (by simp only [maxLen]; omega) (by omega) (by simp) ?_; intro v2 w2 hown2 hg2 hat2)
  rw [Nat.zero_add, List.nil_append] at hown2
  have hbe2 : Below w1.heap.size w1 w2 := (Below.alloc (Below.refl _ _) (Nat.le_refl _) _).grown hg2 (by simp) (fun q hq => by simp [Value.ownBlock] at hq; omega)
  obtain ⟨A2, c2, rfl, hc2, hb2⟩ := own_slice hown2
  have HE2 := hide (HE1.out.trans (hbe2.mono HE1.out.size))
  clear hown2 hg2 hat2 hbe2
  refine (sectors_any l A2 l.length c2 w2 rfl (by omega) hc2 hb2).mono ?_
  rintro e w3 ⟨A3, c3, rfl, hrows3, hbe3⟩
  have HR3 := hide hrows3
  have HE3 := hide (HE2.out.trans (hbe3.mono HE2.out.size))
  have hN : (secs l).length ≤ 47 := by rw [secs_len]; omega
  have hF := secs_flat l
  have hT : (secs l).flatten.length = 64 * (secs l).length := by
    rw [hF, List.length_append, List.length_replicate]
    have := secs_len l
    omega
  have hTl : l.length ≤ 64 * (secs l).length := by
    have := secs_len l
    omega
  have HZ := hide (show ∀ i (h : i < (secs l).flatten.length), l.length ≤ i → (secs l).flatten[i] = 0 from fun i h hle => by
    simp only [hF]
    rw [List.getElem_append_right hle, List.getElem_replicate])
  have HTK := hide (show (secs l).flatten.take l.length = l by rw [hF, List.take_left'] ; rfl)
  have HJ := hide (fun (ls : List (List UInt8)) (hls : ls = secs l) => join_any ls A3 ls.length c3 w3.heap.size w3 rfl (by rw [hls]; omega) (by rw [hls, hT]; omega) (Nat.le_refl _) (by rw [hls]; exact hrows3))
  have HRS := hide (fun W (hW : Below w.heap.size w W) => refSectors_any l A l.length c W rfl (by omega) hc (HA.out.lift hW hW.size))
  have HSM := hide (fun W B Aj cj (h1 : RowsAt W B A3 (secs l)) (h2 : RowsAt W B Aj (secs l)) => same_yes (secs l) A3 Aj (secs l).length (secs l).length c3 cj B W rfl rfl (by omega) h1 h2)
  clear hb2 hbe3 hrows3 hF
  have HJ2 := hide (unhide HJ _ rfl)
  have HSL : Hid (∀ W A c, RowsAt W W.heap.size A (secs l) → RowsRes (secs l) (.slice A (secs l).length c) W) := fun W A c h => ⟨A, c, rfl, h⟩
  clear HJ
  have HT := hide hT
  generalize (secs l).flatten = fl at *
  generalize hls : secs l = ls at *
  clear hls
  go_wp2_with fail
  refine (unhide HJ2).mono ?_
  rintro e w4 ⟨v4, rfl, hown4, hbe4⟩
  obtain ⟨A4, c4, rfl, hc4, hb4⟩ := own_slice hown4
  have HE4 := hide (HE3.out.trans (hbe4.mono HE3.out.size))
  have HR4 := hide (HR3.out.lift hbe4 hbe4.size)
  have HB4 := hide hb4
  have hneq : ((fl.length : Int) != 64 * (ls.length : Int)) = false := by rw [hT]; simp
  have hlt4 : decide (fl.length < l.length) = false := decide_eq_false (by omega)
  have hTK := BytesAt.take hb4 l.length
  rw [HTK.out] at hTK
  have HTKB := hide hTK
  have hs1 := fun W => cut_front8 A4 fl.length c4 l.length (by omega) W
  have hfl3 : fl.length ≤ 3008 := by omega
  have hle4 : l.length ≤ fl.length := by omega
  clear hown4 hbe4 hb4 HJ2 hT hTK
  go_wp2_with fail
  refine wp_region_assert (listV [isV (.slice A3 ls.length c3), isV (.slice A l.length c), RowsRes ls, isV (.bool true), isV (.bool false), isV (.bool false), isV (.slice A4 fl.length c4), isV (.int .i64 (fl.length : Int)), isV (.slice A3 ls.length c3), isV (.int .i64 (ls.length : Int)), isV (.int .i64 (64 * (ls.length : Int))), isV (.bool false), isV (.bool false), isV (.bool false), isV (.slice A4 fl.length c4), isV (.int .i64 (fl.length : Int)), isV (.slice A l.length c), isV (.int .i64 (l.length : Int)), isV (.bool false), isV (.bool false), isV (.bool false), isV (.slice A4 fl.length c4), isV (.slice A l.length c), isV (.int .i64 (l.length : Int)), isV (.slice A4 l.length c4), isV (.string (strOf l)), isV (.slice A l.length c), isV (.string (strOf l)), isV (.bool false), isV (.bool false)]) (by kernel_rfl) (by kernel_rfl) (listV_stable ?_) ?_ ?_
  · exact ⟨isV_stable _, isV_stable _, RowsRes_stable _, isV_stable _, isV_stable _, isV_stable _, isV_stable _, isV_stable _, isV_stable _, isV_stable _, isV_stable _, isV_stable _, isV_stable _, isV_stable _, isV_stable _, isV_stable _, isV_stable _, isV_stable _, isV_stable _, isV_stable _, isV_stable _, isV_stable _, isV_stable _, isV_stable _, isV_stable _, isV_stable _, isV_stable _, isV_stable _, isV_stable _, isV_stable _, trivial⟩
  refine ⟨fun vs wk hbk hd => ?_, fun vs wk hbk hd => ?_, fun vs wk hbk hd => ?_, fun vs wk hbk hd => ?_, fun vs wk hbk hd => ?_, fun vs wk hbk hd => ?_, fun vs wk hbk hd => ?_, fun vs wk hbk hd => ?_, fun vs wk hbk hd => ?_, fun vs wk hbk hd => ?_, fun vs wk hbk hd => ?_, fun vs wk hbk hd => ?_, fun vs wk hbk hd => ?_, fun vs wk hbk hd => ?_, fun vs wk hbk hd => ?_, fun vs wk hbk hd => ?_, fun vs wk hbk hd => ?_, fun vs wk hbk hd => ?_, fun vs wk hbk hd => ?_, fun vs wk hbk hd => ?_, fun vs wk hbk hd => ?_, fun vs wk hbk hd => ?_, fun vs wk hbk hd => ?_, fun vs wk hbk hd => ?_, fun vs wk hbk hd => ?_, fun vs wk hbk hd => ?_, fun vs wk hbk hd => ?_, fun vs wk hbk hd => ?_, fun vs wk hbk hd => ?_, fun vs wk hbk hd => ?_, trivial⟩
  -- 0: Op.move t3
  · clear hd
    go_wp2
    exact ⟨rfl, rfl, rfl, Below.refl _ _⟩
  -- 1: Op.move t0
  · simp only [Act.put, List.setIfInBounds_toArray, List.set_cons_zero, List.set_cons_succ]
    clear hd
    go_wp2
    exact ⟨rfl, rfl, rfl, Below.refl _ _⟩
  -- 2: Op.call { value (Operand.func 25), args := #[t21], argTypes := #[23] }
  · simp only [Act.put, List.setIfInBounds_toArray, List.set_cons_zero, List.set_cons_succ, Nat.reduceAdd]
    have e1 : vs 1 = .slice A l.length c := hd 1 (by kernel_rfl)
    clear hd
    go_wp2_with fail
    refine (unhide HRS wk (HE4.out.trans ((undrew hbk).mono HE4.out.size))).mono ?_
    rintro e w' ⟨Aq, cq, rfl, hr, hbe⟩
    have hrr := HSL.out _ Aq cq hr
    clear hr
    go_wp2
    exact ⟨rfl, rfl, hrr, hbe⟩
  -- 3: Op.call { value (Operand.func 24), args := #[t20, t22], argTypes := #[
  · simp only [Act.put, List.setIfInBounds_toArray, List.set_cons_zero, List.set_cons_succ, Nat.reduceAdd]
    have e0 : vs 0 = .slice A3 ls.length c3 := hd 0 (by kernel_rfl)
    obtain ⟨Aq2, cq2, e2, hq2⟩ := (show (RowsRes ls) (vs 2) wk from hd 2 (by kernel_rfl))
    clear hd
    go_wp2_with fail
    refine (unhide HSM wk wk.heap.size Aq2 cq2 (HR4.out.lift (undrew hbk) (undrew hbk).size) hq2).mono ?_
    rintro e w' ⟨rfl, hbe, _⟩
    go_wp2
    exact ⟨rfl, rfl, rfl, hbe⟩
  -- 4: Op.unOp UnOp.not 4 t23
  · simp only [Act.put, List.setIfInBounds_toArray, List.set_cons_zero, List.set_cons_succ, Nat.reduceAdd]
    have e3 : vs 3 = .bool true := hd 3 (by kernel_rfl)
    clear hd
    go_wp2
    first | exact ⟨rfl, rfl, rfl, Below.refl _ _⟩ | exact ⟨rfl, rfl, e3, Below.refl _ _⟩
  -- 5: Op.move t24
  · simp only [Act.put, List.setIfInBounds_toArray, List.set_cons_zero, List.set_cons_succ, Nat.reduceAdd]
    have e4 : vs 4 = .bool false := hd 4 (by kernel_rfl)
    clear hd
    go_wp2
    first | exact ⟨rfl, rfl, rfl, Below.refl _ _⟩ | exact ⟨rfl, rfl, e4, Below.refl _ _⟩
  -- 6: Op.move t4
  · simp only [Act.put, List.setIfInBounds_toArray, List.set_cons_zero, List.set_cons_succ, Nat.reduceAdd]
    have e5 : vs 5 = .bool false := hd 5 (by kernel_rfl)
    clear hd
    go_wp2
    first | exact ⟨rfl, rfl, rfl, Below.refl _ _⟩ | exact ⟨rfl, rfl, e5, Below.refl _ _⟩
  -- 7: Op.call { builtin len, args := #[t26], argTypes := #[23] }
  · simp only [Act.put, List.setIfInBounds_toArray, List.set_cons_zero, List.set_cons_succ, Nat.reduceAdd]
    have e6 : vs 6 = .slice A4 fl.length c4 := hd 6 (by kernel_rfl)
    have e5 : vs 5 = .bool false := hd 5 (by kernel_rfl)
    clear hd
    go_wp2
    first | exact ⟨rfl, rfl, rfl, Below.refl _ _⟩ | exact ⟨rfl, rfl, e5, Below.refl _ _⟩ | exact ⟨rfl, rfl, e6, Below.refl _ _⟩
  -- 8: Op.move t3
  · simp only [Act.put, List.setIfInBounds_toArray, List.set_cons_zero, List.set_cons_succ, Nat.reduceAdd]
    have e5 : vs 5 = .bool false := hd 5 (by kernel_rfl)
    clear hd
    go_wp2
    first | exact ⟨rfl, rfl, rfl, Below.refl _ _⟩ | exact ⟨rfl, rfl, e5, Below.refl _ _⟩
  -- 9: Op.call { builtin len, args := #[t28], argTypes := #[22] }
  · simp only [Act.put, List.setIfInBounds_toArray, List.set_cons_zero, List.set_cons_succ, Nat.reduceAdd]
    have e8 : vs 8 = .slice A3 ls.length c3 := hd 8 (by kernel_rfl)
    have e5 : vs 5 = .bool false := hd 5 (by kernel_rfl)
    clear hd
    go_wp2
    first | exact ⟨rfl, rfl, rfl, Below.refl _ _⟩ | exact ⟨rfl, rfl, e5, Below.refl _ _⟩ | exact ⟨rfl, rfl, e8, Below.refl _ _⟩
  -- 10: Op.binOp BinOp.mul 3 (const (64:i64)) t29 3
  · simp only [Act.put, List.setIfInBounds_toArray, List.set_cons_zero, List.set_cons_succ, Nat.reduceAdd]
    have e9 : vs 9 = .int .i64 (ls.length : Int) := hd 9 (by kernel_rfl)
    have e5 : vs 5 = .bool false := hd 5 (by kernel_rfl)
    clear hd
    go_wp2
    first | exact ⟨rfl, rfl, rfl, Below.refl _ _⟩ | exact ⟨rfl, rfl, e5, Below.refl _ _⟩ | exact ⟨rfl, rfl, e9, Below.refl _ _⟩
  -- 11: Op.binOp BinOp.neq 3 t27 t30 3
  · simp only [Act.put, List.setIfInBounds_toArray, List.set_cons_zero, List.set_cons_succ, Nat.reduceAdd]
    have e7 : vs 7 = .int .i64 (fl.length : Int) := hd 7 (by kernel_rfl)
    have e10 : vs 10 = .int .i64 (64 * (ls.length : Int)) := hd 10 (by kernel_rfl)
    have e5 : vs 5 = .bool false := hd 5 (by kernel_rfl)
    clear hd
    go_wp2
    first | exact ⟨rfl, rfl, rfl, Below.refl _ _⟩ | exact ⟨rfl, rfl, e5, Below.refl _ _⟩ | exact ⟨rfl, rfl, e10, Below.refl _ _⟩ | exact ⟨rfl, rfl, e7, Below.refl _ _⟩
  -- 12: Op.pick t25 (const (Value.bool true)) t31
  · simp only [Act.put, List.setIfInBounds_toArray, List.set_cons_zero, List.set_cons_succ, Nat.reduceAdd]
    have e5 : vs 5 = .bool false := hd 5 (by kernel_rfl)
    have e11 : vs 11 = .bool false := hd 11 (by kernel_rfl)
    clear hd
    go_wp2
    first | exact ⟨rfl, rfl, rfl, Below.refl _ _⟩ | exact ⟨rfl, rfl, e11, Below.refl _ _⟩ | exact ⟨rfl, rfl, e5, Below.refl _ _⟩
  -- 13: Op.move t32
  · simp only [Act.put, List.setIfInBounds_toArray, List.set_cons_zero, List.set_cons_succ, Nat.reduceAdd]
    have e12 : vs 12 = .bool false := hd 12 (by kernel_rfl)
    clear hd
    go_wp2
    first | exact ⟨rfl, rfl, rfl, Below.refl _ _⟩ | exact ⟨rfl, rfl, e12, Below.refl _ _⟩
  -- 14: Op.move t4
  · simp only [Act.put, List.setIfInBounds_toArray, List.set_cons_zero, List.set_cons_succ, Nat.reduceAdd]
    have e13 : vs 13 = .bool false := hd 13 (by kernel_rfl)
    clear hd
    go_wp2
    first | exact ⟨rfl, rfl, rfl, Below.refl _ _⟩ | exact ⟨rfl, rfl, e13, Below.refl _ _⟩
  -- 15: Op.call { builtin len, args := #[t34], argTypes := #[23] }
  · simp only [Act.put, List.setIfInBounds_toArray, List.set_cons_zero, List.set_cons_succ, Nat.reduceAdd]
    have e14 : vs 14 = .slice A4 fl.length c4 := hd 14 (by kernel_rfl)
    have e13 : vs 13 = .bool false := hd 13 (by kernel_rfl)
    clear hd
    go_wp2
    first | exact ⟨rfl, rfl, rfl, Below.refl _ _⟩ | exact ⟨rfl, rfl, e13, Below.refl _ _⟩ | exact ⟨rfl, rfl, e14, Below.refl _ _⟩
  -- 16: Op.move t0
  · simp only [Act.put, List.setIfInBounds_toArray, List.set_cons_zero, List.set_cons_succ, Nat.reduceAdd]
    have e13 : vs 13 = .bool false := hd 13 (by kernel_rfl)
    clear hd
    go_wp2
    first | exact ⟨rfl, rfl, rfl, Below.refl _ _⟩ | exact ⟨rfl, rfl, e13, Below.refl _ _⟩
  -- 17: Op.call { builtin len, args := #[t36], argTypes := #[23] }
  · simp only [Act.put, List.setIfInBounds_toArray, List.set_cons_zero, List.set_cons_succ, Nat.reduceAdd]
    have e16 : vs 16 = .slice A l.length c := hd 16 (by kernel_rfl)
    have e13 : vs 13 = .bool false := hd 13 (by kernel_rfl)
    clear hd
    go_wp2
    first | exact ⟨rfl, rfl, rfl, Below.refl _ _⟩ | exact ⟨rfl, rfl, e13, Below.refl _ _⟩ | exact ⟨rfl, rfl, e16, Below.refl _ _⟩
  -- 18: Op.binOp BinOp.lss 3 t35 t37 3
  · simp only [Act.put, List.setIfInBounds_toArray, List.set_cons_zero, List.set_cons_succ, Nat.reduceAdd]
    have e15 : vs 15 = .int .i64 (fl.length : Int) := hd 15 (by kernel_rfl)
    have e17 : vs 17 = .int .i64 (l.length : Int) := hd 17 (by kernel_rfl)
    have e13 : vs 13 = .bool false := hd 13 (by kernel_rfl)
    clear hd
    go_wp2
    first | exact ⟨rfl, rfl, rfl, Below.refl _ _⟩ | exact ⟨rfl, rfl, e13, Below.refl _ _⟩ | exact ⟨rfl, rfl, e17, Below.refl _ _⟩ | exact ⟨rfl, rfl, e15, Below.refl _ _⟩
  -- 19: Op.pick t33 (const (Value.bool true)) t38
  · simp only [Act.put, List.setIfInBounds_toArray, List.set_cons_zero, List.set_cons_succ, Nat.reduceAdd]
    have e13 : vs 13 = .bool false := hd 13 (by kernel_rfl)
    have e18 : vs 18 = .bool false := hd 18 (by kernel_rfl)
    clear hd
    go_wp2
    first | exact ⟨rfl, rfl, rfl, Below.refl _ _⟩ | exact ⟨rfl, rfl, e18, Below.refl _ _⟩ | exact ⟨rfl, rfl, e13, Below.refl _ _⟩
  -- 20: Op.move t39
  · simp only [Act.put, List.setIfInBounds_toArray, List.set_cons_zero, List.set_cons_succ, Nat.reduceAdd]
    have e19 : vs 19 = .bool false := hd 19 (by kernel_rfl)
    clear hd
    go_wp2
    first | exact ⟨rfl, rfl, rfl, Below.refl _ _⟩ | exact ⟨rfl, rfl, e19, Below.refl _ _⟩
  -- 21: Op.move t4
  · simp only [Act.put, List.setIfInBounds_toArray, List.set_cons_zero, List.set_cons_succ, Nat.reduceAdd]
    have e20 : vs 20 = .bool false := hd 20 (by kernel_rfl)
    clear hd
    go_wp2
    first | exact ⟨rfl, rfl, rfl, Below.refl _ _⟩ | exact ⟨rfl, rfl, e20, Below.refl _ _⟩
  -- 22: Op.move t0
  · simp only [Act.put, List.setIfInBounds_toArray, List.set_cons_zero, List.set_cons_succ, Nat.reduceAdd]
    have e20 : vs 20 = .bool false := hd 20 (by kernel_rfl)
    clear hd
    go_wp2
    first | exact ⟨rfl, rfl, rfl, Below.refl _ _⟩ | exact ⟨rfl, rfl, e20, Below.refl _ _⟩
  -- 23: Op.call { builtin len, args := #[t42], argTypes := #[23] }
  · simp only [Act.put, List.setIfInBounds_toArray, List.set_cons_zero, List.set_cons_succ, Nat.reduceAdd]
    have e22 : vs 22 = .slice A l.length c := hd 22 (by kernel_rfl)
    have e20 : vs 20 = .bool false := hd 20 (by kernel_rfl)
    clear hd
    go_wp2
    first | exact ⟨rfl, rfl, rfl, Below.refl _ _⟩ | exact ⟨rfl, rfl, e20, Below.refl _ _⟩ | exact ⟨rfl, rfl, e22, Below.refl _ _⟩
  -- 24: Op.slice 23 t41 none (some t43) none
  · simp only [Act.put, List.setIfInBounds_toArray, List.set_cons_zero, List.set_cons_succ, Nat.reduceAdd]
    have e21 : vs 21 = .slice A4 fl.length c4 := hd 21 (by kernel_rfl)
    have e23 : vs 23 = .int .i64 (l.length : Int) := hd 23 (by kernel_rfl)
    have e20 : vs 20 = .bool false := hd 20 (by kernel_rfl)
    clear hd
    go_wp2
    first | exact ⟨rfl, rfl, rfl, Below.refl _ _⟩ | exact ⟨rfl, rfl, e20, Below.refl _ _⟩ | exact ⟨rfl, rfl, e23, Below.refl _ _⟩ | exact ⟨rfl, rfl, e21, Below.refl _ _⟩
  -- 25: Op.convert 23 9 t44
  · simp only [Act.put, List.setIfInBounds_toArray, List.set_cons_zero, List.set_cons_succ, Nat.reduceAdd]
    have e24 : vs 24 = .slice A4 l.length c4 := hd 24 (by kernel_rfl)
    have e20 : vs 20 = .bool false := hd 20 (by kernel_rfl)
    have s1 := conv_str l.length c4 rfl (HTKB.out.lift (undrew hbk) (undrew hbk).size)
    clear hd
    go_wp2
    first | exact ⟨rfl, rfl, rfl, Below.refl _ _⟩ | exact ⟨rfl, rfl, e20, Below.refl _ _⟩ | exact ⟨rfl, rfl, e24, Below.refl _ _⟩
  -- 26: Op.move t0
  · simp only [Act.put, List.setIfInBounds_toArray, List.set_cons_zero, List.set_cons_succ, Nat.reduceAdd]
    have e20 : vs 20 = .bool false := hd 20 (by kernel_rfl)
    clear hd
    go_wp2
    first | exact ⟨rfl, rfl, rfl, Below.refl _ _⟩ | exact ⟨rfl, rfl, e20, Below.refl _ _⟩
  -- 27: Op.convert 23 9 t46
  · simp only [Act.put, List.setIfInBounds_toArray, List.set_cons_zero, List.set_cons_succ, Nat.reduceAdd]
    have e26 : vs 26 = .slice A l.length c := hd 26 (by kernel_rfl)
    have e20 : vs 20 = .bool false := hd 20 (by kernel_rfl)
    have s1 := conv_str l.length c rfl (HA.out.lift (HE4.out.trans ((undrew hbk).mono HE4.out.size)) (Nat.le_refl _))
    clear hd
    go_wp2
    first | exact ⟨rfl, rfl, rfl, Below.refl _ _⟩ | exact ⟨rfl, rfl, e20, Below.refl _ _⟩ | exact ⟨rfl, rfl, e26, Below.refl _ _⟩
  -- 28: Op.binOp BinOp.neq 9 t45 t47 9
  · simp only [Act.put, List.setIfInBounds_toArray, List.set_cons_zero, List.set_cons_succ, Nat.reduceAdd]
    have e25 : vs 25 = .string (strOf l) := hd 25 (by kernel_rfl)
    have e27 : vs 27 = .string (strOf l) := hd 27 (by kernel_rfl)
    have e20 : vs 20 = .bool false := hd 20 (by kernel_rfl)
    have s1 : ((strOf l).toList == (strOf l).toList) = true := by simp
    clear hd
    go_wp2
    first | exact ⟨rfl, rfl, rfl, Below.refl _ _⟩ | exact ⟨rfl, rfl, e20, Below.refl _ _⟩ | exact ⟨rfl, rfl, e27, Below.refl _ _⟩ | exact ⟨rfl, rfl, e25, Below.refl _ _⟩
  -- 29: Op.pick t40 (const (Value.bool true)) t48
  · simp only [Act.put, List.setIfInBounds_toArray, List.set_cons_zero, List.set_cons_succ, Nat.reduceAdd]
    have e20 : vs 20 = .bool false := hd 20 (by kernel_rfl)
    have e28 : vs 28 = .bool false := hd 28 (by kernel_rfl)
    clear hd
    go_wp2
    first | exact ⟨rfl, rfl, rfl, Below.refl _ _⟩ | exact ⟨rfl, rfl, e28, Below.refl _ _⟩ | exact ⟨rfl, rfl, e20, Below.refl _ _⟩
  intro vs wk hbk hd
  simp only [putAll, Act.put, List.setIfInBounds_toArray, List.set_cons_zero, List.set_cons_succ, Nat.reduceAdd]
  have e29 : vs 29 = .bool false := hd 29 (by decide)
  clear hd
  simp only [e29]
  clear e29
  have HE5 := hide (HE4.out.trans ((undrew hbk).mono HE4.out.size))
  have HB5 := hide (HB4.out.lift (undrew hbk) (undrew hbk).size)
  clear hbk hneq hlt4 hs1
  go_wp2
  go_loop [5] (fun i => ∃ k : Nat, l.length ≤ k ∧ k ≤ fl.length ∧ i = .int .i64 k) (fun i => fl.length - (intOf i).toNat)
  case atStart => exact ⟨l.length, Nat.le_refl _, by omega, rfl⟩
  case round =>
    obtain ⟨k, hk1, hk2, rfl⟩ := hrel
    by_cases hlt : k < fl.length
    · obtain ⟨p1, rfl, hp1, q1⟩ := BytesAt.at_ HB5.out hlt
      rw [HZ.out k hlt hk1] at q1
      have i1 : (0 : Int) ≤ (k : Int) := by omega
      have i2 : (k : Int) < (fl.length : Int) := by omega
      go_wp2
      go_round
      case rel => exact ⟨k + 1, by omega, by omega, by go_num⟩
      case measure => simp [intOf]; omega
    · go_wp2
      go_ret
      exact ⟨rfl, HE5.out⟩

set_option maxRecDepth 100000 in
set_option maxHeartbeats 1000000 in
theorem pageCuts_no (n c : Nat) (A : Option Addr) (w : World) (hn : 3000 < n) (hh : HalfAt w) :
    Calls Tryd.prog 9 #[.slice A n c] w fun e w' => e = .returned (.bool true) ∧ Below w.heap.size w w' := by
  have HH := hide hh
  have h3000 : decide ((3000 : Int) < (n : Int)) = true := decide_eq_true (by omega)
  clear hh
  go_enter Tryd.func9, Tryd.ntmps9
  go_wp2_with fail
  refine (awake14 _ (unhide HH)).mono ?_
  rintro e w1 ⟨rfl, hbe⟩
  have HE := hide hbe
  clear hbe
  go_wp2_with fail
  refine (awake14 w1 ((unhide HH).below HE.out)).mono ?_
  rintro e w2 ⟨rfl, hbe2⟩
  have HE2 := hide (HE.out.trans (hbe2.mono HE.out.size))
  clear hbe2
  go_wp2
  go_ret
  exact ⟨rfl, HE2.out⟩
end Go.Proofs.YtenhjnicadjbaaaDoor
