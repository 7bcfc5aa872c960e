/-
  The walk of icehouselaw12.CrcSums. Conditions: the arguments read as slices of bytes; the table half reads as the text lays it.
-/
import Derived.Test.YtenhjnicadjbaaaDoorCrcAwake
import Derived.Test.YtenhjnicadjbaaaDoorRefCrc
import Derived.Deep.RegionHeld3
import Derived.Deep.RegionWith
import Derived.Deep.DeepMust
namespace Go.Proofs.YtenhjnicadjbaaaDoor
open Go Go.RowKit

theorem cut_in (cut : Int) (L : Nat) (_h1 : -9223372036854775808 ≤ cut) (_h2 : cut ≤ 9223372036854775807) (hL : L ≤ 10500) :
    ∃ k : Nat, k ≤ L ∧ (wrap64 (wrap64 (cut.tmod (↑L + 1) + ↑L) + 1)).tmod (↑L + 1) = (k : Int) := by
  have a := Int.tmod_lt_of_pos cut (b := (L : Int) + 1) (by omega)
  have b := Int.lt_tmod_of_pos cut (b := (L : Int) + 1) (by omega)
  have e1 : wrap64 (cut.tmod (↑L + 1) + ↑L) = cut.tmod (↑L + 1) + ↑L := IntWalk.wrap64_in _ ⟨by omega, by omega⟩
  have e2 : wrap64 (cut.tmod (↑L + 1) + ↑L + 1) = cut.tmod (↑L + 1) + ↑L + 1 := IntWalk.wrap64_in _ ⟨by omega, by omega⟩
  rw [e1, e2]
  have c := Int.tmod_lt_of_pos (cut.tmod (↑L + 1) + ↑L + 1) (b := (L : Int) + 1) (by omega)
  have d := Int.tmod_nonneg ((L : Int) + 1) (a := cut.tmod (↑L + 1) + ↑L + 1) (by omega)
  exact ⟨((cut.tmod (↑L + 1) + ↑L + 1).tmod (↑L + 1)).toNat, by omega, by omega⟩

theorem stN_inv (s : Nat) : s ^^^ 4294967295 ^^^ 4294967295 = s := by rw [Nat.xor_assoc, Nat.xor_self, Nat.xor_zero]
theorem moreN_crc (a b : List UInt8) : moreN (crcN a) b = crcN (a ++ b) := by
  unfold moreN crcN
  rw [stN_inv, stN_append]
theorem flat_len {ls : List (List UInt8)} (hl : ls.length ≤ 21) (h5 : ∀ l ∈ ls, l.length ≤ 500) : ls.flatten.length ≤ 10500 := by
  have : ∀ (ls : List (List UInt8)), (∀ l ∈ ls, l.length ≤ 500) → ls.flatten.length ≤ ls.length * 500 := by
    intro ls
    induction ls with
    | nil => simp
    | cons a t ih =>
      intro h
      have h1 := h a (by simp)
      have h2 := ih (fun l hl => h l (by simp [hl]))
      simp only [List.flatten_cons, List.length_append, List.length_cons]
      omega
  have := this ls h5
  omega

set_option maxRecDepth 100000 in
set_option maxHeartbeats 2000000 in
theorem crcSums_yes (ls : List (List UInt8)) (A : Option Addr) (n c : Nat) (cut : Int) (w : World) (hn : n = ls.length) (hf : fits ls = true) (h1 : -9223372036854775808 ≤ cut) (h2 : cut ≤ 9223372036854775807) (hA : RowsAt w w.heap.size A ls) (hh : HalfAt w) :
    Calls Tryd.prog 3 #[.slice A n c, .int .i64 cut] w fun e w' => e = .returned (.bool true) ∧ Below w.heap.size w w' := by
  subst hn
  obtain ⟨hl21, hl500⟩ := fits_yes hf
  have hLl := flat_len hl21 hl500
  have HA := hide hA
  have HH := hide hh
  have H5 := hide hl500
  clear hA hh hl500 hf
  go_enter Tryd.func3, Tryd.ntmps3
  go_wp2_with fail
  refine (joined_yes ls A ls.length c w rfl hl21 (unhide H5) (unhide HA)).mono ?_
  rintro e w1 ⟨A', c', rfl, hc', hb', hbe⟩
  have HB := hide hb'
  have HE := hide hbe
  clear hb' hbe
  have hS1 : ∀ W : World, Below w.heap.size w W → Calls Tryd.prog 15 #[.slice A ls.length c] W fun e w' => e = .returned (.int .u32 (crcN ls.flatten : Nat)) ∧ W = w' := fun W hW =>
    sum_any ls A ls.length c w.heap.size W rfl (by omega) (fun l hl => by have := unhide H5 l hl; omega) ((unhide HA).lift hW (Nat.le_refl _)) ((unhide HH).below hW)
  generalize ls.flatten = all at *
  have S1 := hide hS1
  clear hS1
  go_wp2_with fail
  refine (awake12 w1 ((unhide HH).below (unhide HE))).mono ?_
  rintro e w2 ⟨rfl, hbe2⟩
  have HE2 := hide (HE.out.trans (hbe2.mono HE.out.size))
  have HB2 := hide (HB.out.lift hbe2 hbe2.size)
  clear hbe2
  obtain ⟨k, hk, ek⟩ := cut_in cut all.length h1 h2 hLl
  go_wp2_with fail
  refine (refSum_any all A' all.length c' w2.heap.size w2 rfl (by omega) HB2.out).mono ?_
  rintro e w' ⟨rfl, rfl⟩
  go_wp2_with fail
  clear ek h1 h2
  have hs1 := fun W => cut_front8 A' all.length c' k (by omega) W
  have hs2 := fun W => cut_back8 A' all.length c' k hk W
  have HT := hide (BytesAt.take HB2.out k)
  have HD := hide (BytesAt.cut HB2.out hk hc')
  generalize (if c' = k then A' else A'.map (·.add k)) = A2 at *
  have hL : ∀ W : World, Below w2.heap.size w2 W → Below w.heap.size w W := fun W h => HE2.out.trans (h.mono HE2.out.size)
  have htk : (all.take k).length = k := by rw [List.length_take]; omega
  have hdk : (all.drop k).length = all.length - k := by rw [List.length_drop]
  have hS2 : ∀ (W : World) (g : Nat), Below w2.heap.size w2 W → g < W.heap.size → W.cell? ⟨g, 0, none⟩ = some (.slice A' k c') →
      Calls Tryd.prog 15 #[.slice (some ⟨g, 0, none⟩) 1 1] W fun e w' => e = .returned (.int .u32 (crcN (all.take k) : Nat)) ∧ W = w' := fun W g hW hg hc => by
    have := sum_any [all.take k] (some ⟨g, 0, none⟩) 1 1 W.heap.size W rfl (by simp) (fun l hl => by rw [List.mem_singleton.1 hl, htk]; omega)
      (RowsAt.one_cell hg htk.symm (by rw [htk]; omega) hc (HT.out.lift hW hW.size)) ((unhide HH).below (hL W hW))
    simpa using this
  have hM1 : ∀ (W : World) (g : Nat), Below w2.heap.size w2 W → g < W.heap.size → W.cell? ⟨g, 0, none⟩ = some (.slice A2 (all.length - k) (c' - k)) →
      Calls Tryd.prog 16 #[.int .u32 (crcN (all.take k) : Nat), .slice (some ⟨g, 0, none⟩) 1 1] W fun e w' => e = .returned (.int .u32 (crcN all : Nat)) ∧ W = w' := fun W g hW hg hc => by
    have := more_any [all.drop k] (some ⟨g, 0, none⟩) 1 1 W.heap.size (crcN (all.take k)) W rfl (by simp) (fun l hl => by rw [List.mem_singleton.1 hl, hdk]; omega) (crcN_lt _)
      (RowsAt.one_cell hg hdk.symm (by rw [hdk]; omega) hc (HD.out.lift hW hW.size)) ((unhide HH).below (hL W hW))
    rw [moreN_crc] at this
    simpa using this
  have hM2 : ∀ (W : World) (g : Nat), Below w2.heap.size w2 W → g < W.heap.size → W.cell? ⟨g, 0, none⟩ = some (.slice A' k c') → W.cell? ⟨g, 1, none⟩ = some (.slice none 0 0) → W.cell? ⟨g, 2, none⟩ = some (.slice A2 (all.length - k) (c' - k)) →
      Calls Tryd.prog 16 #[.int .u32 0, .slice (some ⟨g, 0, none⟩) 3 3] W fun e w' => e = .returned (.int .u32 (crcN all : Nat)) ∧ W = w' := fun W g hW hg k1 k2 k3 => by
    have := more_any [all.take k, [], all.drop k] (some ⟨g, 0, none⟩) 3 3 W.heap.size 0 W rfl (by simp)
      (fun l hl => by
        simp only [List.mem_cons, List.not_mem_nil, or_false] at hl
        rcases hl with rfl | rfl | rfl
        · omega
        · simp
        · omega) (by decide)
      (RowsAt.three_cells hg htk.symm rfl hdk.symm (by omega) (by simp) (by omega) k1 k2 k3 (HT.out.lift hW hW.size) (BytesAt.nil _ _ _) (HD.out.lift hW hW.size)) ((unhide HH).below (hL W hW))
    rw [moreN_zero] at this
    simpa using this
  have S2 := hide hS2
  have M1 := hide hM1
  have M2 := hide hM2
  have HX := hide hL
  clear hS2 hM1 hM2 hL htk hdk
  generalize crcN (List.take k all) = ct at *
  generalize crcN all = ca at *
  go_region_held3 (fun W => Below w2.heap.size w2 W) (first | assumption | exact (Below.refl _ _).drew | (refine Below.alloc (by assumption) ?_ _; exact Below.size (by assumption))) (first
    | (go_at_call_of 15 (Value.slice A ls.length c); refine (unhide S1 _ ?_).mono ?_; (refine unhide HX _ ?_; assumption); rintro e w' ⟨rfl, rfl⟩)
    | (go_at_call 15; (with_reducible refine (unhide S2 _ _ ?_ ?_ ?_).mono ?_); assumption; (simp <;> omega); (with_reducible refine cellD ?_); (first | ((with_reducible refine cellN ?_ rfl); (focus (simp; done))) | ((with_reducible refine cellO (cellN ?_ rfl)); (focus (simp; done))) | ((with_reducible refine cellO (cellO (cellN ?_ rfl))); (focus (simp; done)))); rintro e w' ⟨rfl, rfl⟩)
    | (go_at_call 16; (with_reducible refine (unhide M1 _ _ ?_ ?_ ?_).mono ?_); assumption; (simp <;> omega); (with_reducible refine cellD ?_); (first | ((with_reducible refine cellN ?_ rfl); (focus (simp; done))) | ((with_reducible refine cellO (cellN ?_ rfl)); (focus (simp; done))) | ((with_reducible refine cellO (cellO (cellN ?_ rfl))); (focus (simp; done)))); rintro e w' ⟨rfl, rfl⟩)
    | (go_at_call 16; (with_reducible refine (unhide M2 _ _ ?_ ?_ ?_ ?_ ?_).mono ?_); assumption; (simp <;> omega); (with_reducible refine cellD ?_); (first | ((with_reducible refine cellN ?_ rfl); (focus (simp; done))) | ((with_reducible refine cellO (cellN ?_ rfl)); (focus (simp; done))) | ((with_reducible refine cellO (cellO (cellN ?_ rfl))); (focus (simp; done)))); (with_reducible refine cellD ?_); (first | ((with_reducible refine cellN ?_ rfl); (focus (simp; done))) | ((with_reducible refine cellO (cellN ?_ rfl)); (focus (simp; done))) | ((with_reducible refine cellO (cellO (cellN ?_ rfl))); (focus (simp; done)))); (with_reducible refine cellD ?_); (first | ((with_reducible refine cellN ?_ rfl); (focus (simp; done))) | ((with_reducible refine cellO (cellN ?_ rfl)); (focus (simp; done))) | ((with_reducible refine cellO (cellO (cellN ?_ rfl))); (focus (simp; done)))); rintro e w' ⟨rfl, rfl⟩))
  all_goals
    go_wp2
    go_ret
    exact ⟨rfl, unhide HX _ (by assumption)⟩

set_option maxRecDepth 100000 in
set_option maxHeartbeats 400000 in
theorem crcSums_no (ls : List (List UInt8)) (A : Option Addr) (n c : Nat) (cut : Int) (w : World) (hn : n = ls.length) (hf : fits ls = false) (hA : RowsAt w w.heap.size A ls) (hh : HalfAt w) :
    Calls Tryd.prog 3 #[.slice A n c, .int .i64 cut] w fun e w' => e = .returned (.bool true) ∧ Below w.heap.size w w' := by
  subst hn
  have hJ := joined_no ls A ls.length c w rfl hf hA
  have HJ := hide hJ
  have HH := hide hh
  clear hA hh hf hJ
  go_enter Tryd.func3, Tryd.ntmps3
  go_wp2_with fail
  refine (unhide HJ).mono ?_
  rintro e w1 ⟨rfl, hbe⟩
  have HE := hide hbe
  clear hbe
  go_wp2_with fail
  refine (awake12 w1 ((unhide HH).below (unhide HE))).mono ?_
  rintro e w2 ⟨rfl, hbe2⟩
  have HE2 := hide (HE.out.trans (hbe2.mono HE.out.size))
  clear hbe2
  go_wp2_with fail
  refine (awake12 w2 ((unhide HH).below (unhide HE2))).mono ?_
  rintro e w3 ⟨rfl, hbe3⟩
  have HE3 := hide (HE2.out.trans (hbe3.mono HE2.out.size))
  clear hbe3
  go_wp2
  go_ret
  exact ⟨rfl, HE3.out⟩
end Go.Proofs.YtenhjnicadjbaaaDoor
