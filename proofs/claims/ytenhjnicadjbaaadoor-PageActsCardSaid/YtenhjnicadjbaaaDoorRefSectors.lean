/-
  icehouseref14.Sectors: octets cut into sectors, by definition; icehouseref13.Same at equal lists. Condition: the slices read as lists of bytes.
-/
import Derived.Test.YtenhjnicadjbaaaDoorSectors
import Derived.BigRegion
namespace Go.Proofs.YtenhjnicadjbaaaDoor
open Go Go.RowKit

def lenV : Value → Nat
  | .slice _ n _ => n
  | _ => 0
def cpy (s : List UInt8) (i : Nat) : List UInt8 := s.take i ++ List.replicate (64 - i) 0
theorem cpy_set {s : List UInt8} {i : Nat} (h : i < s.length) (h64 : i < 64) : (cpy s i).set i s[i] = cpy s (i + 1) := by
  unfold cpy
  have hl : (s.take i).length = i := by rw [List.length_take]; omega
  rw [List.set_append_right _ _ (by omega), hl, Nat.sub_self, show 64 - i = (64 - (i + 1)) + 1 by omega, List.replicate_succ, List.set_cons_zero, take_snoc s i h, List.append_assoc]
  rfl
theorem byts_sets (l : List UInt8) (j : Nat) (x : UInt8) : (byts l).toArray.setIfInBounds j (.int .u8 (x.toNat : Int)) = (byts (l.set j x)).toArray := by
  simp [byts, List.map_set]
theorem cpy_all (l : List UInt8) (k n : Nat) (hn : n = min 64 (l.length - 64 * k)) : cpy (l.drop (64 * k)) n = secL l k := by
  unfold cpy secL
  rw [← hn]
  congr 1
  rw [List.take_eq_take_iff, List.length_drop]
  omega
theorem reads_one {w : World} {B g : Nat} {u : Value} (hg : g < B) (h : w.cell? ⟨g, 0, none⟩ = some u) : Reads w B 1 (some ⟨g, 0, none⟩) 1 [u] := by
  refine ⟨rfl, fun _ => ⟨_, rfl, hg, fun j v hv => ?_⟩⟩
  match j, hv with
  | 0, hv => cases hv; exact h
  | j + 1, hv => cases hv

theorem own_keep {w w' : World} {base : Nat} {e : TypeId} {s n : Nat} {v : Value} {xs : List Value} (h : w.ownsRow base e s v n xs) (hb : Below w.heap.size w w') : w'.ownsRow base e s v n xs :=
  h.kept (only_of_below hb none) (by
    rcases h.2 with ⟨rfl, _⟩ | ⟨g, cap, cur, rfl, _⟩
    · exact .inl rfl
    · exact .inr (by simp [Value.ownBlock]))

set_option maxRecDepth 100000 in
set_option maxHeartbeats 2000000 in
theorem refSectors_blk (l : List UInt8) (A : Option Addr) (m c : Nat) (w : World) (hm : m = l.length) (hl : l.length ≤ 1099511627776) (hc : l.length ≤ c) (hA : BytesAt w w.heap.size A l) :
    Calls Tryd.prog 25 #[.slice A m c] w fun e w' => ∃ A' c', e = .returned (.slice A' (secs l).length c') ∧ BlkRows w' A' (secs l) ∧ Below w.heap.size w w' := by
  subst hm
  obtain ⟨i0, hi, hz0, hz1, hz2⟩ := info_parts info_rows
  have hmk : ∀ W', (Instr.makeSlice 23 (.int .i64 64) (.int .i64 64)).run Tryd.prog W' = .ok (.slice (some ⟨W'.heap.size, 0, none⟩) 64 64) (W'.alloc (.cells (madeCells #[.int .u8 0] 64) 5)) := make8 64 (by omega)
  go_enter Tryd.func25, Tryd.ntmps25
  go_wp2
  go_loopw [0, 3] (fun b v wr => ∃ (k : Nat) (A' : Option Addr) (c' : Nat) (xs : List Value), 64 * k ≤ l.length + 63 ∧ b = .slice A' (l.length - 64 * k) c' ∧ l.length - 64 * k ≤ c' ∧ BytesAt w w.heap.size A' (l.drop (64 * k)) ∧ wr.ownsRow w.heap.size 23 1 v k xs ∧ AllSecs wr l (List.range k) xs ∧ Below w.heap.size w wr) (fun b _ _ => lenV b)
  case atStart => exact ⟨0, A, c, [], by omega, rfl, hc, hA, World.ownsRow_nil _ _ _ _, ⟨rfl, fun i k h => by simp at h⟩, Below.refl _ _⟩
  case round =>
    obtain ⟨k, A', c', xs, hk, rfl, hc', hA', hrow, hall, hbe⟩ := hrel
    have HA' := hide hA'
    have HROW := hide hrow
    have HALL := hide hall
    have HBE := hide hbe
    have HD := hide (show (l.drop (64 * k)).length = l.length - 64 * k by simp)
    by_cases hlt : 64 * k < l.length
    · have t1 : decide ((0 : Int) < ((l.length - 64 * k : Nat) : Int)) = true := decide_eq_true (by omega)
      have HCA := hide (cpy_all l k _ rfl)
      have HCS := hide (fun (i : Nat) (h : i < (l.drop (64 * k)).length) => cpy_set (s := l.drop (64 * k)) h)
      have HC0 := hide (show madeCells #[.int .u8 0] 64 = (byts (cpy (l.drop (64 * k)) 0)).toArray from zeros_cells 64)
      have hq5 : l.length - 64 * k ≤ 1099511627776 := by omega
      by_cases h64 : l.length - 64 * k < 64
      · have t2 : decide (((l.length - 64 * k : Nat) : Int) < 64) = true := decide_eq_true (by omega)
        have s2 := fun W => cut_back8 A' (l.length - 64 * k) c' (l.length - 64 * k) (by omega) W
        have hmin : min 64 (l.length - 64 * k) = (l.length - 64 * k) := by omega
        rw [hmin] at HCA
        have HNX := hide (show l.length - 64 * k - (l.length - 64 * k) = l.length - 64 * (k + 1) by omega)
        have HDD := hide (show (l.drop (64 * k)).drop (l.length - 64 * k) = l.drop (64 * (k + 1)) by rw [List.drop_of_length_le (by rw [HD.out]; omega), List.drop_of_length_le (by omega)])
        have HKK := hide (show 64 * (k + 1) ≤ l.length + 63 by omega)
        have hqm : l.length - 64 * (k + 1) < l.length - 64 * k := by omega
        have HCUT := hide (BytesAt.cut hA' (k := (l.length - 64 * k)) (c := c') (by rw [HD.out]; omega) (by rw [HD.out]; omega))
        rw [HDD.out] at HCUT
        have hNq : (l.length - 64 * k) ≤ l.length - 64 * k := by omega
        have hN64 : (l.length - 64 * k) ≤ 64 := by omega
        have hk40 : k ≤ 1099511627776 := by omega
        clear hA' hrow hall hbe hmin hk hlt
        generalize l.drop (64 * k) = sq at *
        generalize hq : l.length - 64 * k = q at *
        clear hq
        generalize wr = W1 at *
        go_wp2
        go_loopw [6] (fun i x => ∃ j : Nat, j ≤ q ∧ i = .int .i64 j ∧ Blk x W1.heap.size 5 (byts (cpy sq j)).toArray ∧ Below W1.heap.size W1 x) (fun i _ => q - (intOf i).toNat)
        case atStart => exact ⟨0, Nat.zero_le _, rfl, by rw [← HC0.out]; exact Blk.new _ _ _, Below.alloc (Below.refl _ _) (Nat.le_refl _) _⟩
        case round =>
          obtain ⟨j, hj, rfl, hblk, hbx⟩ := hrel
          have HBK := hide hblk
          have HBX := hide hbx
          by_cases hlt : j < q
          · have hjl : j < sq.length := by rw [HD.out]; omega
            obtain ⟨p1, rfl, hp1, q1⟩ := BytesAt.at_ HA'.out hjl
            have r1 : wr.cell? (p1.add j) = _ := ((HBE.out.trans (hbx.mono HBE.out.size)).cell (by rw [block_of_add]; exact hp1)).trans q1
            have r2 := hblk.frozen j
            have hsz : (byts (cpy sq j)).toArray.size = 64 := by simp [byts, cpy]; omega
            obtain ⟨ov, hov⟩ : ∃ ov, (byts (cpy sq j)).toArray[j]? = some ov := ⟨_, Array.getElem?_eq_getElem (by omega)⟩
            have r3 := (hblk.cell j).trans hov
            have HST := hide (HCS.out j hjl (by omega))
            clear hblk hbx q1 hsz hov
            generalize sq[j] = x at *
            have i1 : (0 : Int) ≤ (j : Int) := by omega
            have i2 : (j : Int) < ((q : Nat) : Int) := by omega
            have i3 : (j : Int) < (q : Int) := by omega
            have i4 : (j : Int) < 64 := by omega
            try simp only [Nat.cast_ofNat] at i2
            go_wp2
            go_roundw
            case rel =>
              refine ⟨j + 1, by omega, by go_num, ?_, HBX.out.setCell (p := ⟨W1.heap.size, j, none⟩) (Nat.le_refl _) _⟩
              have := HBK.out.set_ j (.int .u8 (x.toNat : Int))
              rw [byts_sets, HST.out] at this
              exact this
            case measure => simp [intOf]; omega
          · obtain rfl : j = q := by omega
            rw [HCA.out] at HBK
            have HROW2 := hide (own_keep HROW.out HBX.out)
            have HALL2 := hide (HALL.out.keep fun g cs hb => hb.below HBX.out hb.lt)
            have HBW := hide (HBE.out.trans (HBX.out.mono HBE.out.size))
            clear hblk hbx
            go_wp2_with (at_builtin; refine wpList_append_any _ rfl (.tmp 28) (.tmp 30) _ rfl w.heap.size 23 i0 _ 1 24 Tryd.underlying22 hi hz0 hz1 hz2 rfl (by omega) _ k xs rfl (World.ownsRow.alloc HROW2.out _) (wr.heap.size + 1) (some ⟨wr.heap.size, 0, none⟩) 1 1 [.slice (some ⟨W1.heap.size, 0, none⟩) 64 64] rfl (reads_one (by omega) (cellN rfl rfl)) (by simp [Value.oneCell']) (by simp only [maxLen]; omega) (by omega) (by rw [World.size_alloc]; have := HBW.out.size; omega) ?_; intro v' w1 hown' hgrow _)
            have hch : ∀ g (cs : Array Value), Blk wr g 5 cs → Blk w1 g 5 cs := fun g cs hb => (hb.alloc _).grown hgrow (own_blk_ne HROW2.out hb (by decide)).symm
            have HCH := hide hch
            have HGR := hide hgrow
            have HOW := hide hown'
            clear hch hgrow hown'
            go_roundw
            case rel =>
              refine ⟨k + 1, (if c' = j then A' else A'.map (·.add j)), c' - j, xs ++ [.slice (some ⟨W1.heap.size, 0, none⟩) 64 64], HKK.out, by have := HNX.out; congr 1 <;> omega, by have := HNX.out; omega, HCUT.out, HOW.out, ?_, ?_⟩
              · rw [List.range_succ]
                exact (HALL2.out.keep HCH.out).snoc ⟨W1.heap.size, rfl, HCH.out _ _ HBK.out⟩
              · exact (HBW.out.alloc HBW.out.size _).grown HGR.out (by rw [World.size_alloc]; have := HBW.out.size; omega) (fun g hg => (World.ownsRow.lt HROW2.out g hg).1)
            case measure => have := HNX.out; simp only [lenV]; omega
      · have t2 : decide (((l.length - 64 * k : Nat) : Int) < 64) = false := decide_eq_false (by omega)
        have s2 := fun W => cut_back8 A' (l.length - 64 * k) c' 64 (by omega) W
        have hmin : min 64 (l.length - 64 * k) = 64 := by omega
        rw [hmin] at HCA
        have HNX := hide (show l.length - 64 * k - 64 = l.length - 64 * (k + 1) by omega)
        have HDD := hide (show (l.drop (64 * k)).drop 64 = l.drop (64 * (k + 1)) by rw [List.drop_drop]; congr 1)
        have HKK := hide (show 64 * (k + 1) ≤ l.length + 63 by omega)
        have hqm : l.length - 64 * (k + 1) < l.length - 64 * k := by omega
        have HCUT := hide (BytesAt.cut hA' (k := 64) (c := c') (by rw [HD.out]; omega) (by rw [HD.out]; omega))
        rw [HDD.out] at HCUT
        have hNq : 64 ≤ l.length - 64 * k := by omega
        have hN64 : 64 ≤ 64 := by omega
        have hk40 : k ≤ 1099511627776 := by omega
        clear hA' hrow hall hbe hmin hk hlt
        generalize l.drop (64 * k) = sq at *
        generalize hq : l.length - 64 * k = q at *
        clear hq
        generalize wr = W1 at *
        go_wp2
        go_loopw [6] (fun i x => ∃ j : Nat, j ≤ 64 ∧ i = .int .i64 j ∧ Blk x W1.heap.size 5 (byts (cpy sq j)).toArray ∧ Below W1.heap.size W1 x) (fun i _ => 64 - (intOf i).toNat)
        case atStart => exact ⟨0, Nat.zero_le _, rfl, by rw [← HC0.out]; exact Blk.new _ _ _, Below.alloc (Below.refl _ _) (Nat.le_refl _) _⟩
        case round =>
          obtain ⟨j, hj, rfl, hblk, hbx⟩ := hrel
          have HBK := hide hblk
          have HBX := hide hbx
          by_cases hlt : j < 64
          · have hjl : j < sq.length := by rw [HD.out]; omega
            obtain ⟨p1, rfl, hp1, q1⟩ := BytesAt.at_ HA'.out hjl
            have r1 : wr.cell? (p1.add j) = _ := ((HBE.out.trans (hbx.mono HBE.out.size)).cell (by rw [block_of_add]; exact hp1)).trans q1
            have r2 := hblk.frozen j
            have hsz : (byts (cpy sq j)).toArray.size = 64 := by simp [byts, cpy]; omega
            obtain ⟨ov, hov⟩ : ∃ ov, (byts (cpy sq j)).toArray[j]? = some ov := ⟨_, Array.getElem?_eq_getElem (by omega)⟩
            have r3 := (hblk.cell j).trans hov
            have HST := hide (HCS.out j hjl (by omega))
            clear hblk hbx q1 hsz hov
            generalize sq[j] = x at *
            have i1 : (0 : Int) ≤ (j : Int) := by omega
            have i2 : (j : Int) < ((64 : Nat) : Int) := by omega
            have i3 : (j : Int) < (q : Int) := by omega
            have i4 : (j : Int) < 64 := by omega
            try simp only [Nat.cast_ofNat] at i2
            go_wp2
            go_roundw
            case rel =>
              refine ⟨j + 1, by omega, by go_num, ?_, HBX.out.setCell (p := ⟨W1.heap.size, j, none⟩) (Nat.le_refl _) _⟩
              have := HBK.out.set_ j (.int .u8 (x.toNat : Int))
              rw [byts_sets, HST.out] at this
              exact this
            case measure => simp [intOf]; omega
          · obtain rfl : j = 64 := by omega
            rw [HCA.out] at HBK
            have HROW2 := hide (own_keep HROW.out HBX.out)
            have HALL2 := hide (HALL.out.keep fun g cs hb => hb.below HBX.out hb.lt)
            have HBW := hide (HBE.out.trans (HBX.out.mono HBE.out.size))
            clear hblk hbx
            go_wp2_with (at_builtin; refine wpList_append_any _ rfl (.tmp 28) (.tmp 30) _ rfl w.heap.size 23 i0 _ 1 24 Tryd.underlying22 hi hz0 hz1 hz2 rfl (by omega) _ k xs rfl (World.ownsRow.alloc HROW2.out _) (wr.heap.size + 1) (some ⟨wr.heap.size, 0, none⟩) 1 1 [.slice (some ⟨W1.heap.size, 0, none⟩) 64 64] rfl (reads_one (by omega) (cellN rfl rfl)) (by simp [Value.oneCell']) (by simp only [maxLen]; omega) (by omega) (by rw [World.size_alloc]; have := HBW.out.size; omega) ?_; intro v' w1 hown' hgrow _)
            have hch : ∀ g (cs : Array Value), Blk wr g 5 cs → Blk w1 g 5 cs := fun g cs hb => (hb.alloc _).grown hgrow (own_blk_ne HROW2.out hb (by decide)).symm
            have HCH := hide hch
            have HGR := hide hgrow
            have HOW := hide hown'
            clear hch hgrow hown'
            go_roundw
            case rel =>
              refine ⟨k + 1, (if c' = 64 then A' else A'.map (·.add 64)), c' - 64, xs ++ [.slice (some ⟨W1.heap.size, 0, none⟩) 64 64], HKK.out, by have := HNX.out; congr 1 <;> omega, by have := HNX.out; omega, HCUT.out, HOW.out, ?_, ?_⟩
              · rw [List.range_succ]
                exact (HALL2.out.keep HCH.out).snoc ⟨W1.heap.size, rfl, HCH.out _ _ HBK.out⟩
              · exact (HBW.out.alloc HBW.out.size _).grown HGR.out (by rw [World.size_alloc]; have := HBW.out.size; omega) (fun g hg => (World.ownsRow.lt HROW2.out g hg).1)
            case measure => have := HNX.out; simp only [lenV]; omega
    · have t1 : decide (0 < l.length - 64 * k) = false := decide_eq_false (by omega)
      have HK := hide (show k = (l.length + 63) / 64 by omega)
      clear hA' hrow hall hbe hmk
      generalize l.length - 64 * k = q at *
      obtain ⟨Av, cv, rfl⟩ : ∃ Av cv, u3 = .slice Av k cv := by
        rcases HROW.out.2 with ⟨rfl, h0⟩ | ⟨g, cap, cur, rfl, _⟩
        · exact ⟨none, 0, by rw [h0]⟩
        · exact ⟨_, _, rfl⟩
      go_wp2
      go_ret
      refine ⟨Av, cv, by rw [secs_len, ← HK.out]; rfl, ?_, HBE.out⟩
      have := AllSecs.blks (HALL.out) (by simp) HROW.out
      rw [HK.out] at this
      exact this

theorem refSectors_any (l : List UInt8) (A : Option Addr) (m c : Nat) (w : World) (hm : m = l.length) (hl : l.length ≤ 1099511627776) (hc : l.length ≤ c) (hA : BytesAt w w.heap.size A l) :
    Calls Tryd.prog 25 #[.slice A m c] w fun e w' => ∃ A' c', e = .returned (.slice A' (secs l).length c') ∧ RowsAt w' w'.heap.size A' (secs l) ∧ Below w.heap.size w w' :=
  (refSectors_blk l A m c w hm hl hc hA).mono fun _ _ ⟨A', c', e, h, hb⟩ => ⟨A', c', e, h.rows, hb⟩

theorem BytesAt.drewN' {w : World} {B : Nat} {A : Option Addr} {l : List UInt8} (h : BytesAt w B A l) (q : Nat) : BytesAt (w.drewN q) B A l := h

set_option maxRecDepth 100000 in
set_option maxHeartbeats 400000 in
theorem same_yes (ls : List (List UInt8)) (A1 A2 : Option Addr) (n1 n2 c1 c2 B : Nat) (w : World) (hn1 : n1 = ls.length) (hn2 : n2 = ls.length) (hl : ls.length ≤ 1099511627776) (hA1 : RowsAt w B A1 ls) (hA2 : RowsAt w B A2 ls) :
    Calls Tryd.prog 24 #[.slice A1 n1 c1, .slice A2 n2 c2] w fun e w' => e = .returned (.bool true) ∧ Below w.heap.size w w' ∧ w'.heap = w.heap := by
  subst hn1 hn2
  have HA1 := hide hA1
  have HA2 := hide hA2
  clear hA1 hA2
  have hne : ((ls.length : Int) != (ls.length : Int)) = false := by simp
  go_enter Tryd.func24, Tryd.ntmps24
  go_wp2
  go_loopw [5] (fun i wr => ∃ k : Nat, k ≤ ls.length ∧ i = .int .i64 k ∧ Below w.heap.size w wr ∧ wr.heap = w.heap) (fun i _ => ls.length - (intOf i).toNat)
  case atStart => exact ⟨0, Nat.zero_le _, rfl, Below.refl _ _, rfl⟩
  case round =>
    obtain ⟨k, hk, rfl, hbe, hhe⟩ := hrel
    have HB := hide hbe
    have HE := hide hhe
    by_cases hlt : k < ls.length
    · obtain ⟨ad1, rfl, hb1, hcc1⟩ := (unhide HA1) (by omega)
      obtain ⟨P1, d1, hci1, hlen1, hbs1⟩ := hcc1 k hlt
      obtain ⟨ad2, rfl, hb2, hcc2⟩ := (unhide HA2) (by omega)
      obtain ⟨P2, d2, hci2, hlen2, hbs2⟩ := hcc2 k hlt
      have r1 : wr.cell? (ad1.add k) = some (.slice P1 ls[k].length d1) := (by simpa [World.cell?, hhe] using hci1)
      have r2 : wr.cell? (ad2.add k) = some (.slice P2 ls[k].length d2) := (by simpa [World.cell?, hhe] using hci2)
      have hk1 : ∀ p, wr.cell? p = w.cell? p := fun p => by simp [World.cell?, hhe]
      have s1 := fun q => conv_str _ d1 rfl (BytesAt.drewN' (Reads.keep hbs1 fun p _ => hk1 p) q)
      have s2 := fun q => conv_str _ d2 rfl (BytesAt.drewN' (Reads.keep hbs2 fun p _ => hk1 p) q)
      have sx : ((strOf ls[k]).toList == (strOf ls[k]).toList) = true := by simp
      clear hbe hhe hcc1 hcc2 hci1 hci2 hbs1 hbs2 hk1
      generalize ls[k] = x at *
      have i1 : (0 : Int) ≤ (k : Int) := by omega
      have i2 : (k : Int) < (ls.length : Int) := by omega
      go_wp2_with fail
      go_quiet (fail)
      go_wp2
      go_roundw
      case rel => exact ⟨k + 1, by omega, by go_num, below_drewN HB.out _, HE.out⟩
      case measure => simp [intOf]; omega
    · clear hbe hhe
      go_wp2
      go_ret
      exact ⟨rfl, HB.out, HE.out⟩
end Go.Proofs.YtenhjnicadjbaaaDoor
