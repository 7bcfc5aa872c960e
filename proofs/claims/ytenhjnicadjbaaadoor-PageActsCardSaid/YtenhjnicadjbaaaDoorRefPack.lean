/-
  The walks of icehouselaw14's joined and of icehouseref14.Pack. Conditions: the slices read as lists of bytes.
-/
import Derived.Test.YtenhjnicadjbaaaDoorPack
import Derived.BigRegion
namespace Go.Proofs.YtenhjnicadjbaaaDoor
open Go Go.RowKit

set_option maxRecDepth 100000 in
set_option maxHeartbeats 400000 in
theorem joined14_yes (ls : List (List UInt8)) (A : Option Addr) (n c : Nat) (w : World) (hn : n = ls.length) (hl : ls.length ≤ 21)
    (hlx : ∀ l ∈ ls, l.length ≤ 600) (hA : RowsAt w w.heap.size A ls) :
    Calls Tryd.prog 26 #[.slice A n c] w (JoinedYes ls w) := by
  subst hn
  obtain ⟨i0, hi0, hz0, hz1, hz2⟩ := info_parts info_u8
  go_enter Tryd.func26, Tryd.ntmps26
  go_wp2
  go_loopw [4, 5] (fun v i wr => ∃ k : Nat, k ≤ ls.length ∧ i = .int .i64 k ∧ (ls.take k).flatten.length ≤ k * 600 ∧ wr.ownsRow w.heap.size 5 1 v (ls.take k).flatten.length (byts (ls.take k).flatten) ∧ Below w.heap.size w wr) (fun _ i _ => ls.length - (intOf i).toNat)
  case atStart => exact ⟨0, Nat.zero_le _, rfl, by simp, ⟨by simp [byts], .inl ⟨rfl, rfl⟩⟩, Below.refl _ _⟩
  case round =>
    obtain ⟨k, hk, rfl, htk, hown, hbe⟩ := hrel
    by_cases hlt : k < ls.length
    · obtain ⟨ad, rfl, hb, hc⟩ := hA (by omega)
      obtain ⟨Ai, ci, hci, hlen, hbs⟩ := hc k hlt
      clear hc
      have hlk := hlx ls[k] (List.getElem_mem hlt)
      have HF := Lib.hid (flat_take ls k hlt)
      have hci' : wr.cell? (ad.add k) = some (.slice Ai ls[k].length ci) := (hbe.cell (by rw [block_of_add]; exact hb)).trans hci
      have HB := hide (hbs.lift hbe (Nat.le_refl _))
      have HO := hide hown
      clear hci hlx hbs hown
      generalize ls[k] = l at *
      have h20 : decide ((20 : Int) < (k : Int)) = false := by simp; omega
      have h600 : decide ((600 : Int) < (l.length : Int)) = false := by simp; omega
      generalize (List.take k ls).flatten = z at *
      go_wp2_with (at_builtin; refine wpList_append_any _ rfl (.tmp 22) (.tmp 26) _ rfl w.heap.size 5 i0 _ 1 1 Tryd.underlying23 hi0 hz0 hz1 hz2 rfl (by omega) u4 z.length (byts z) rfl (unhide HO) w.heap.size Ai l.length ci (byts l) rfl (unhide HB) byts_one (by simp only [maxLen]; omega) (by omega) hbe.size ?_; intro v1 w1 hown1 hg1 hat1)
      have HO1 : Hid (w1.ownsRow w.heap.size 5 1 v1 (z ++ l).length (byts (z ++ l))) := by rw [byts_append, List.length_append]; exact hown1
      go_roundw
      case rel => exact ⟨k + 1, by omega, by go_num, by rw [HF.out, List.length_append]; omega, by rw [HF.out]; exact HO1.out, hbe.grown hg1 hbe.size (fun g hg => (World.ownsRow.lt (unhide HO) g hg).1)⟩
      case measure => simp [intOf]; omega
    · rw [List.take_of_length_le (by omega)] at hown
      obtain ⟨A', c', rfl, h1, h2⟩ := own_slice hown
      go_wp2
      go_ret2
      exact ⟨A', c', rfl, h1, h2, hbe⟩

def fits14 (ls : List (List UInt8)) : Bool := decide (ls.length ≤ 21) && ls.all fun l => decide (l.length ≤ 600)

set_option maxRecDepth 100000 in
set_option maxHeartbeats 400000 in
theorem joined14_no (ls : List (List UInt8)) (A : Option Addr) (n c : Nat) (w : World) (hn : n = ls.length) (hno : fits14 ls = false) (hA : RowsAt w w.heap.size A ls) :
    Calls Tryd.prog 26 #[.slice A n c] w (JoinedNo w) := by
  subst hn
  have HN := Lib.hid hno
  clear hno
  obtain ⟨i0, hi0, hz0, hz1, hz2⟩ := info_parts info_u8
  go_enter Tryd.func26, Tryd.ntmps26
  go_wp2
  go_loopw [4, 5] (fun v i wr => ∃ k : Nat, k ≤ ls.length ∧ k ≤ 21 ∧ (∀ l ∈ ls.take k, l.length ≤ 600) ∧ i = .int .i64 k ∧ (ls.take k).flatten.length ≤ k * 600 ∧ wr.ownsRow w.heap.size 5 1 v (ls.take k).flatten.length (byts (ls.take k).flatten) ∧ Below w.heap.size w wr) (fun _ i _ => ls.length - (intOf i).toNat)
  case atStart => exact ⟨0, Nat.zero_le _, by omega, by simp, rfl, by simp, ⟨by simp [byts], .inl ⟨rfl, rfl⟩⟩, Below.refl _ _⟩
  case round =>
    obtain ⟨k, hk, h21, hall, rfl, htk, hown, hbe⟩ := hrel
    have HA := hide hall
    by_cases hlt : k < ls.length
    · obtain ⟨ad, rfl, hb, hc⟩ := hA (by omega)
      obtain ⟨Ai, ci, hci, hlen, hbs⟩ := hc k hlt
      clear hc hall
      have HF := Lib.hid (flat_take ls k hlt)
      have HT := Lib.hid (show ls.take (k + 1) = ls.take k ++ [ls[k]] from List.take_succ_eq_append_getElem hlt)
      have hci' : wr.cell? (ad.add k) = some (.slice Ai ls[k].length ci) := (hbe.cell (by rw [block_of_add]; exact hb)).trans hci
      have HB := hide (hbs.lift hbe (Nat.le_refl _))
      have HO := hide hown
      clear hci hbs hown
      generalize ls[k] = l at *
      by_cases hk20 : k ≤ 20
      · have h20 : decide ((20 : Int) < (k : Int)) = false := by simp; omega
        by_cases hl5 : l.length ≤ 600
        · have h600 : decide ((600 : Int) < (l.length : Int)) = false := by simp; omega
          generalize (List.take k ls).flatten = z at *
          go_wp2_with (at_builtin; refine wpList_append_any _ rfl (.tmp 22) (.tmp 26) _ rfl w.heap.size 5 i0 _ 1 1 Tryd.underlying23 hi0 hz0 hz1 hz2 rfl (by omega) u4 z.length (byts z) rfl (unhide HO) w.heap.size Ai l.length ci (byts l) rfl (unhide HB) byts_one (by simp only [maxLen]; omega) (by omega) hbe.size ?_; intro v1 w1 hown1 hg1 hat1)
          have HO1 : Hid (w1.ownsRow w.heap.size 5 1 v1 (z ++ l).length (byts (z ++ l))) := by rw [byts_append, List.length_append]; exact hown1
          go_roundw
          case rel => exact ⟨k + 1, by omega, by omega, by rw [HT.out]; intro l' hl'; rcases List.mem_append.1 hl' with h | h; exact unhide HA l' h; rw [List.mem_singleton.1 h]; exact hl5, by go_num, by rw [HF.out, List.length_append]; omega, by rw [HF.out]; exact HO1.out, hbe.grown hg1 hbe.size (fun g hg => (World.ownsRow.lt (unhide HO) g hg).1)⟩
          case measure => simp [intOf]; omega
        · have h600 : decide ((600 : Int) < (l.length : Int)) = true := by simp; omega
          go_wp2
          go_ret2
          exact ⟨rfl, hbe⟩
      · have h20 : decide ((20 : Int) < (k : Int)) = true := by simp; omega
        go_wp2
        go_ret2
        exact ⟨rfl, hbe⟩
    · exfalso
      rw [List.take_of_length_le (by omega)] at hall
      have h2 : fits14 ls = true := by
        unfold fits14
        simp only [Bool.and_eq_true, decide_eq_true_eq, List.all_eq_true]
        exact ⟨by omega, hall⟩
      rw [HN.out] at h2
      cases h2
theorem fits14_yes {ls : List (List UInt8)} (h : fits14 ls = true) : ls.length ≤ 21 ∧ ∀ l ∈ ls, l.length ≤ 600 := by
  unfold fits14 at h
  simp only [Bool.and_eq_true, decide_eq_true_eq, List.all_eq_true] at h
  exact h

theorem flat_len14 {ls : List (List UInt8)} (hl : ls.length ≤ 21) (hx : ∀ l ∈ ls, l.length ≤ 600) : ls.flatten.length ≤ 12600 := by
  have : ∀ ls : List (List UInt8), (∀ l ∈ ls, l.length ≤ 600) → ls.flatten.length ≤ ls.length * 600 := by
    intro ls
    induction ls with
    | nil => simp
    | cons a r ih =>
      intro h
      have h1 := ih fun l hl => h l (List.mem_cons_of_mem _ hl)
      have h2 := h a List.mem_cons_self
      rw [List.flatten_cons, List.length_append, List.length_cons]
      omega
  have := this ls hx
  omega

def pg (k : Nat) (l : List UInt8) (j : Nat) : List UInt8 := [UInt8.ofNat k, UInt8.ofNat (l.length / 256), UInt8.ofNat l.length] ++ (l.take j ++ List.replicate (505 - j) 0)
theorem pg_set (k : Nat) {l : List UInt8} {j : Nat} (h : j < l.length) (h5 : l.length ≤ 505) : (pg k l j).set (3 + j) l[j] = pg k l (j + 1) := by
  unfold pg
  have hl : (l.take j).length = j := by rw [List.length_take]; omega
  rw [List.set_append_right _ _ (by simp), List.set_append_right _ _ (by simp; omega)]
  congr 1
  rw [hl, show 3 + j - [UInt8.ofNat k, UInt8.ofNat (l.length / 256), UInt8.ofNat l.length].length - j = 0 by simp, show 505 - j = (505 - (j + 1)) + 1 by omega, List.replicate_succ, List.set_cons_zero, take_snoc l j h, List.append_assoc]
  rfl
theorem pg_all (k : Nat) (l : List UInt8) : pg k l l.length = pageB k l := by
  unfold pg pageB
  rw [List.take_length]
theorem byts_st (l : List UInt8) (j : Nat) (x : UInt8) : (byts l).toArray.setIfInBounds j (.int .u8 (x.toNat : Int)) = (byts (l.set j x)).toArray := by
  simp [byts, List.map_set]
theorem pg_start (k : Nat) (l : List UInt8) : (((List.replicate 508 (0 : UInt8)).set 0 (UInt8.ofNat k)).set 1 (UInt8.ofNat (l.length / 256))).set 2 (UInt8.ofNat l.length) = pg k l 0 := by
  rw [show List.replicate 508 (0 : UInt8) = 0 :: 0 :: 0 :: List.replicate 505 0 from rfl]
  unfold pg
  rw [List.take_zero, Nat.sub_zero]
  generalize List.replicate 505 (0 : UInt8) = R
  rfl
theorem Blk.octets {W : World} {g : Nat} {s : List UInt8} (h : Blk W g 5 (byts s).toArray) : BytesAt W W.heap.size (some ⟨g, 0, none⟩) s := by
  refine ⟨by simp [byts], fun _ => ⟨_, rfl, h.lt, fun j u hu => ?_⟩⟩
  rw [add_flat, h.cell, ← hu]
  simp
theorem made_at {m i : Nat} (h : i < m) : (madeCells #[Value.int .u8 0] m)[i]? = some (.int .u8 0) := by
  rw [zeros_cells, List.getElem?_toArray, byts, List.getElem?_map, List.getElem?_replicate, if_pos h]
  rfl

set_option maxRecDepth 100000 in
set_option maxHeartbeats 1000000 in
theorem refPack_ok (k : Nat) (l : List UInt8) (A : Option Addr) (n c B : Nat) (w : World) (hk1 : 1 ≤ k) (hk2 : k ≤ 255) (hn : n = l.length) (hl : l.length ≤ 505) (hB : B ≤ w.heap.size) (hA : BytesAt w B A l) :
    Calls Tryd.prog 27 #[.int .i64 (k : Int), .slice A n c] w (PackOk k l w) := by
  subst hn
  have k1 : decide ((k : Int) < 1) = false := decide_eq_false (by omega)
  have k2 : decide ((255 : Int) < (k : Int)) = false := decide_eq_false (by omega)
  have f1 : decide ((505 : Int) < (l.length : Int)) = false := decide_eq_false (by omega)
  have hmk : ∀ W', (Instr.makeSlice 23 (.int .i64 508) (.int .i64 508)).run Tryd.prog W' = .ok (.slice (some ⟨W'.heap.size, 0, none⟩) 508 508) (W'.alloc (.cells (madeCells #[.int .u8 0] 508) 5)) := make8 508 (by omega)
  go_enter Tryd.func27, Tryd.ntmps27
  have z0 := made_at (m := 508) (i := 0) (by omega)
  have z1 := made_at (m := 508) (i := 1) (by omega)
  have z2 := made_at (m := 508) (i := 2) (by omega)
  have HS : Hid (((((madeCells #[Value.int .u8 0] 508).setIfInBounds 0 (.int .u8 (k : Int))).setIfInBounds 1 (.int .u8 ((l.length : Int) / 256))).setIfInBounds 2 (.int .u8 ((l.length : Int) % 256))) = (byts (pg k l 0)).toArray) := by
    have e1 : (k : Int) = ((UInt8.ofNat k).toNat : Int) := by rw [u8_ofNat]; omega
    have e2 : (l.length : Int) / 256 = ((UInt8.ofNat (l.length / 256)).toNat : Int) := by rw [u8_ofNat]; omega
    have e3 : (l.length : Int) % 256 = ((UInt8.ofNat l.length).toNat : Int) := by rw [u8_ofNat]
    show _ = _
    rw [zeros_cells, e1, e2, e3, byts_st, byts_st, byts_st, pg_start]
  have HPA := hide (pg_all k l)
  have HPS := hide (fun (j : Nat) (h : j < l.length) => pg_set k h hl)
  have HPL := hide (pageB_len k hl)
  have HPF : Hid (pageL k l = frameL (pageB k l)) := rfl
  unfold PackOk
  rw [HPF.out]
  clear HPF
  generalize pageB k l = pb at *
  go_wp2_with fail
  clear z0 z1 z2
  go_loopw [7] (fun i wr => ∃ j : Nat, j ≤ l.length ∧ i = .int .i64 j ∧ Blk wr w.heap.size 5 (byts (pg k l j)).toArray ∧ Below w.heap.size w wr) (fun i _ => l.length - (intOf i).toNat)
  case atStart => exact ⟨0, Nat.zero_le _, rfl, by rw [← HS.out]; exact Blk.new _ _ _, Below.alloc (Below.refl _ _) (Nat.le_refl _) _⟩
  case round =>
    obtain ⟨j, hj, rfl, hblk, hbe⟩ := hrel
    have HBK := hide hblk
    have HBE := hide hbe
    by_cases hlt : j < l.length
    · obtain ⟨p1, rfl, hp1, q1⟩ := BytesAt.at_ hA hlt
      have r1 : wr.cell? (p1.add j) = _ := (hbe.cell (by rw [block_of_add]; omega)).trans q1
      have r2 := hblk.frozen (3 + j)
      have hsz : (byts (pg k l j)).toArray.size = 508 := by simp [byts, pg]; omega
      obtain ⟨ov, hov⟩ : ∃ ov, (byts (pg k l j)).toArray[3 + j]? = some ov := ⟨_, Array.getElem?_eq_getElem (by omega)⟩
      have r3 := (hblk.cell (3 + j)).trans hov
      have HST := hide (HPS.out j hlt)
      clear hblk hbe q1 hsz hov
      generalize l[j] = x at *
      have i1 : (0 : Int) ≤ (j : Int) := by omega
      have i2 : (j : Int) < (l.length : Int) := by omega
      have i3 : (j : Int) < 505 := by omega
      go_wp2
      go_roundw
      case rel =>
        refine ⟨j + 1, by omega, by go_num, ?_, HBE.out.setCell (p := ⟨w.heap.size, 3 + j, none⟩) (Nat.le_refl _) _⟩
        have := HBK.out.set_ (3 + j) (.int .u8 (x.toNat : Int))
        rw [byts_st, HST.out] at this
        exact this
      case measure => simp [intOf]; omega
    · obtain rfl : j = l.length := by omega
      rw [HPA.out] at HBK
      have HB := hide (HBK.out.octets)
      clear hblk hbe
      go_wp2_with fail
      refine (refFrame_any pb _ 508 508 wr.heap.size wr HPL.out.symm (by rw [HPL.out]; omega) HB.out).mono ?_
      rintro e w5 ⟨v5, rfl, hown5, hbe5⟩
      have HO5 := hide hown5
      have HE5 := hide (HBE.out.trans (hbe5.mono HBE.out.size))
      have HSZ := hide HBE.out.size
      clear hown5 hbe5
      go_wp2
      go_ret2
      exact ⟨v5, rfl, own_base HO5.out HSZ.out, HE5.out⟩

set_option maxRecDepth 100000 in
set_option maxHeartbeats 1000000 in
theorem refPack_bad (t : Int) (A : Option Addr) (n c : Nat) (w : World) (hn : n ≤ 1099511627776) (hp : packs t n = false) :
    Calls Tryd.prog 27 #[.int .i64 t, .slice A n c] w (PackBad t w) := by
  by_cases h1 : t < 1
  · have k1 : decide (t < 1) = true := decide_eq_true h1
    go_enter Tryd.func27, Tryd.ntmps27
    go_wp2_with fail
    go_ret2
    exact ⟨.inl ⟨rfl, .inl h1⟩, Below.refl _ _⟩
  · have k1 : decide (t < 1) = false := decide_eq_false h1
    by_cases h2 : 255 < t
    · have k2 : decide (255 < t) = true := decide_eq_true h2
      go_enter Tryd.func27, Tryd.ntmps27
      go_wp2_with fail
      go_ret2
      exact ⟨.inl ⟨rfl, .inr h2⟩, Below.refl _ _⟩
    · have k2 : decide (255 < t) = false := decide_eq_false h2
      have f1 : decide ((505 : Int) < (n : Int)) = true := by
        refine decide_eq_true ?_
        unfold packs at hp
        simp only [Bool.and_eq_false_iff, decide_eq_false_iff_not] at hp
        omega
      have HT := hide (show 1 ≤ t ∧ t ≤ 255 by omega)
      clear h1 h2 hp
      go_enter Tryd.func27, Tryd.ntmps27
      go_wp2_with fail
      go_ret2
      exact ⟨.inr ⟨rfl, HT.out⟩, Below.refl _ _⟩

theorem refPack_post (t : Int) (l : List UInt8) (A : Option Addr) (n c B : Nat) (w : World) (hn : n = l.length) (hl : l.length ≤ 1099511627776) (hB : B ≤ w.heap.size) (hA : BytesAt w B A l) :
    Calls Tryd.prog 27 #[.int .i64 t, .slice A n c] w (PackPost t l w) := by
  subst hn
  cases hp : packs t l.length with
  | false =>
    refine (refPack_bad t A l.length c w hl hp).mono fun e w' h => ?_
    obtain ⟨⟨rfl, h⟩ | ⟨rfl, h⟩, hb⟩ := h
    · exact ⟨_, _, _, _, rfl, hb, .inr ⟨hp, rfl, rfl, rfl, .inl ⟨rfl, h⟩⟩⟩
    · exact ⟨_, _, _, _, rfl, hb, .inr ⟨hp, rfl, rfl, rfl, .inr ⟨rfl, h⟩⟩⟩
  | true =>
    have h := hp
    unfold packs at h
    simp only [Bool.and_eq_true, decide_eq_true_eq] at h
    obtain ⟨k, rfl⟩ : ∃ k : Nat, t = k := ⟨t.toNat, by omega⟩
    refine (refPack_ok k l A l.length c B w (by omega) (by omega) rfl h.2.2 hB hA).mono fun e w' h => ?_
    obtain ⟨v, rfl, ho, hb⟩ := h
    obtain ⟨A', c', rfl, hc, hr⟩ := own_slice ho
    exact ⟨_, _, _, _, rfl, hb, .inl ⟨hp, rfl, rfl, hc, hr⟩⟩
end Go.Proofs.YtenhjnicadjbaaaDoor
