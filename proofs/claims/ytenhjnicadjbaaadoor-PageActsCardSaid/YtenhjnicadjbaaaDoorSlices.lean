/-
  The walks of slices.Equal, Clone, Grow, Concat at []byte, and of crc's four. Conditions: the slices read as lists of bytes.
-/
import Derived.Test.YtenhjnicadjbaaaDoorCrcAwake
import Derived.Test.YtenhjnicadjbaaaDoorRegionAny
namespace Go.Proofs.YtenhjnicadjbaaaDoor
open Go Go.RowKit

def le4 (n : Nat) : List UInt8 := [UInt8.ofNat n, UInt8.ofNat (n / 256), UInt8.ofNat (n / 65536), UInt8.ofNat (n / 16777216)]
theorem u8_ofNat (n : Nat) : ((UInt8.ofNat n).toNat : Int) = (n : Int) % 256 := by
  rw [UInt8.toNat_ofNat']
  omega
theorem le4_cells (n : Nat) (hn : n < 4294967296) : (byts (le4 n)).toArray = #[.int .u8 ((n : Int) % 256), .int .u8 ((n : Int) / 256 % 256), .int .u8 ((n : Int) / 65536 % 256), .int .u8 ((n : Int) / 16777216)] := by
  have h3 : ((n / 16777216 : Nat) : Int) % 256 = (n : Int) / 16777216 := by omega
  simp only [byts, le4, List.map_cons, List.map_nil, u8_ofNat, h3]
  simp

set_option maxRecDepth 100000 in
set_option maxHeartbeats 400000 in
theorem four_any (n : Nat) (hn : n < 4294967296) (w : World) :
    Calls Tryd.prog 44 #[.int .u32 n] w fun e w' => e = .returned (.slice (some ⟨w.heap.size, 0, none⟩) 4 4) ∧ w' = w.alloc (.cells (byts (le4 n)).toArray 5) := by
  go_enter Tryd.func44, Tryd.ntmps44
  go_wp2
  go_ret
  refine ⟨rfl, ?_⟩
  rw [le4_cells n hn]

def FourAt (n : Nat) (w : World) (e : Ending) (w' : World) : Prop := ∃ A, e = .returned (.slice A 4 4) ∧ BytesAt w' w'.heap.size A (le4 n) ∧ Below w.heap.size w w'
theorem four_at (n : Nat) (hn : n < 4294967296) (w : World) : Calls Tryd.prog 44 #[.int .u32 n] w (FourAt n w) :=
  (four_any n hn w).mono fun e w' ⟨h1, h2⟩ => by
    subst h2
    refine ⟨_, h1, ?_, Below.alloc (Below.refl _ _) (Nat.le_refl _) _⟩
    rw [World.size_alloc]
    exact BytesAt.new w (le4 n) _ 5 (0, 0) rfl

set_option maxRecDepth 100000 in
set_option maxHeartbeats 400000 in
theorem clone_some (l : List UInt8) (ad : Addr) (n c : Nat) (B : Nat) (w : World) (hn : n = l.length) (hl : l.length ≤ 1099511627776) (hB : B ≤ w.heap.size) (hA : BytesAt w B (some ad) l) :
    Calls Tryd.prog 45 #[.slice (some ad) n c] w fun e w' => ∃ v, e = .returned v ∧ w'.ownsRow w.heap.size 5 1 v l.length (byts l) ∧ Below w.heap.size w w' := by
  subst hn
  have hq := fun (W : World) => Lib.run_eql_slice_nil (P := Tryd.prog) W
  go_enter Tryd.func45, Tryd.ntmps45
  obtain ⟨i0, hi0, hz0, hz1, hz2⟩ := info_parts info_u8
  go_wp2_with (at_builtin; refine wpList_append_any _ rfl (.tmp 5) (.tmp 6) _ rfl w.heap.size 5 i0 _ 1 1 Tryd.underlying23 hi0 hz0 hz1 hz2 rfl (by omega) (.slice (some ⟨w.heap.size, 0, none⟩) 0 0) 0 [] rfl (World.ownsRow_made w #[] 0 (Nat.le_refl _) (by simp only [maxLen]; omega) rfl) B (some ad) l.length c (byts l) rfl (Reads.alloc hA hB _) byts_one (by simp only [maxLen]; omega) (by omega) (by simp) ?_; intro v1 w1 hown1 hg1 hat1)
  rw [Nat.zero_add, List.nil_append] at hown1
  go_ret
  exact ⟨v1, rfl, hown1, (Below.alloc (Below.refl _ _) (Nat.le_refl _) _).grown hg1 (by simp) (fun k hk => by simp [Value.ownBlock] at hk; omega)⟩

theorem clone_nil (n c : Nat) (w : World) :
    Calls Tryd.prog 45 #[.slice none n c] w fun e w' => e = .returned (.slice none 0 0) ∧ w = w' := by
  have hq := fun (W : World) => Lib.run_eql_slice_nil (P := Tryd.prog) W
  go_enter Tryd.func45, Tryd.ntmps45
  go_wp2
  go_ret
  exact ⟨rfl, rfl⟩

set_option maxRecDepth 100000 in
set_option maxHeartbeats 400000 in
theorem grow_nil (n : Nat) (w : World) (hl : n ≤ 1099511627776) :
    Calls Tryd.prog 60 #[.slice none 0 0, .int .i64 n] w fun e w' => ∃ v, e = .returned v ∧ w'.ownsRow w.heap.size 5 1 v 0 [] ∧ Below w.heap.size w w' := by
  by_cases h0 : n = 0
  · subst h0
    go_enter Tryd.func60, Tryd.ntmps60
    go_wp2_with fail
    go_ret
    exact ⟨_, rfl, World.ownsRow_nil _ _ _ _, Below.refl _ _⟩
  · have hby : Tryd.t5.bytes = 1 := by kernel_rfl
    have hnc : Builtin.nextslicecap n 0 = n := by
      unfold Builtin.nextslicecap
      rw [if_pos (by omega)]
    have hn63 : (n : Int) ≤ 9223372036854775807 := by omega
    go_enter Tryd.func60, Tryd.ntmps60
    go_wp2_with fail
    go_ret
    have hcap : Question.cut (.appendCap n 0 5) (w.tape w.drawn (.appendCap n 0 5)) = grownCap w n 0 5 := rfl
    have hge := grownCap_ge w n 0 5
    have hle := grownCap_le_maxLen w n 0 5 (by simp only [maxLen]; omega)
    refine ⟨_, rfl, ⟨by simp, .inr ⟨w.heap.size, grownCap w n 0 5, _, rfl, Nat.le_refl _, heap_alloc_new w _, Nat.zero_le _, hle, ?_, by simp⟩⟩, ((Below.refl _ _).alloc (Nat.le_refl _) _).drew⟩
    rw [hcap, Array.size_append, size_zeroCells, size_zeroCells]
    simp
    omega

set_option maxRecDepth 100000 in
set_option maxHeartbeats 400000 in
theorem equal_yes (l : List UInt8) (A1 A2 : Option Addr) (n1 n2 c1 c2 B : Nat) (w : World) (hn1 : n1 = l.length) (hn2 : n2 = l.length) (hl : l.length ≤ 1099511627776) (hA1 : BytesAt w B A1 l) (hA2 : BytesAt w B A2 l) :
    Calls Tryd.prog 43 #[.slice A1 n1 c1, .slice A2 n2 c2] w fun e w' => e = .returned (.bool true) ∧ Below w.heap.size w w' ∧ w'.heap = w.heap := by
  subst hn1 hn2
  have HA1 := hide hA1
  have HA2 := hide hA2
  clear hA1 hA2
  have hne : ((l.length : Int) != (l.length : Int)) = false := by simp
  go_enter Tryd.func43, Tryd.ntmps43
  go_wp2
  go_loopw [13] (fun i wr => ∃ k : Nat, k ≤ l.length ∧ i = .int .i64 k ∧ Below w.heap.size w wr ∧ wr.heap = w.heap) (fun i _ => l.length - (intOf i).toNat)
  case atStart => exact ⟨0, Nat.zero_le _, rfl, Below.refl _ _, rfl⟩
  case round =>
    obtain ⟨k, hk, rfl, hbe, hhe⟩ := hrel
    have HB := hide hbe
    have HE := hide hhe
    by_cases hlt : k < l.length
    · obtain ⟨p1, rfl, hp1, q1⟩ := BytesAt.at_ (unhide HA1) hlt
      obtain ⟨p2, rfl, hp2, q2⟩ := BytesAt.at_ (unhide HA2) hlt
      have r1 : wr.cell? (p1.add k) = some (.int .u8 (l[k].toNat : Int)) := (by simpa [World.cell?, hhe] using q1)
      have r2 : wr.cell? (p2.add k) = some (.int .u8 (l[k].toNat : Int)) := (by simpa [World.cell?, hhe] using q2)
      clear hbe hhe q1 q2
      generalize l[k] = x at *
      have hxx : ((x.toNat : Int) != (x.toNat : Int)) = false := by simp
      have i1 : (0 : Int) ≤ (k : Int) := by omega
      have i2 : (k : Int) < (l.length : Int) := by omega
      go_wp2_with fail
      go_quiet (fail)
      go_wp2
      go_roundw
      case rel => exact ⟨k + 1, by omega, by go_num, below_drewN HB.out _, HE.out⟩
      case measure => simp [intOf]; omega
    · clear hbe hhe
      go_wp2
      go_ret
      exact ⟨rfl, HB.out, HE.out⟩

set_option maxRecDepth 100000 in
set_option maxHeartbeats 400000 in
theorem equal_no (l1 l2 : List UInt8) (A1 A2 : Option Addr) (n1 n2 c1 c2 B : Nat) (w : World) (hn1 : n1 = l1.length) (hn2 : n2 = l2.length) (hl : l1.length ≤ 1099511627776) (hne : l1 ≠ l2) (hA1 : BytesAt w B A1 l1) (hA2 : BytesAt w B A2 l2) :
    Calls Tryd.prog 43 #[.slice A1 n1 c1, .slice A2 n2 c2] w fun e w' => e = .returned (.bool false) ∧ Below w.heap.size w w' ∧ w'.heap = w.heap := by
  subst hn1 hn2
  have HA1 := hide hA1
  have HA2 := hide hA2
  have HN := hide hne
  clear hA1 hA2 hne
  by_cases hlen : l1.length = l2.length
  · have hll : ((l1.length : Int) != (l2.length : Int)) = false := by simp [hlen]
    have h12 : l2.length ≤ l1.length := by omega
    have h21 : l1.length ≤ l2.length := by omega
    clear hlen
    go_enter Tryd.func43, Tryd.ntmps43
    go_wp2
    go_loopw [13] (fun i wr => ∃ k : Nat, k ≤ l1.length ∧ i = .int .i64 k ∧ l1.take k = l2.take k ∧ Below w.heap.size w wr ∧ wr.heap = w.heap) (fun i _ => l1.length - (intOf i).toNat)
    case atStart => exact ⟨0, Nat.zero_le _, rfl, rfl, Below.refl _ _, rfl⟩
    case round =>
      obtain ⟨k, hk, rfl, htk, hbe, hhe⟩ := hrel
      have HB := hide hbe
      have HE := hide hhe
      have HT := hide htk
      by_cases hlt : k < l1.length
      · have hlt2 : k < l2.length := by omega
        obtain ⟨p1, rfl, hp1, q1⟩ := BytesAt.at_ (unhide HA1) hlt
        obtain ⟨p2, rfl, hp2, q2⟩ := BytesAt.at_ (unhide HA2) hlt2
        have r1 : wr.cell? (p1.add k) = some (.int .u8 (l1[k].toNat : Int)) := (by simpa [World.cell?, hhe] using q1)
        have r2 : wr.cell? (p2.add k) = some (.int .u8 (l2[k].toNat : Int)) := (by simpa [World.cell?, hhe] using q2)
        have HS : Hid (l1[k] = l2[k] → l1.take (k + 1) = l2.take (k + 1)) := fun e => by rw [take_snoc l1 k hlt, take_snoc l2 k hlt2, htk, e]
        clear hbe hhe q1 q2 htk
        generalize l1[k] = x at *
        generalize l2[k] = y at *
        have i1 : (0 : Int) ≤ (k : Int) := by omega
        have i2 : (k : Int) < (l1.length : Int) := by omega
        have i3 : (k : Int) < (l2.length : Int) := by omega
        by_cases hxy : x = y
        · have hxx : ((x.toNat : Int) != (y.toNat : Int)) = false := by simp [hxy]
          have HX := hide hxy
          clear hxy
          go_wp2_with fail
          go_quiet (fail)
          go_wp2
          go_roundw
          case rel => exact ⟨k + 1, by omega, by go_num, HS.out HX.out, below_drewN HB.out _, HE.out⟩
          case measure => simp [intOf]; omega
        · have hxx : ((x.toNat : Int) != (y.toNat : Int)) = true := by
            rw [bne_iff_ne]
            intro e
            exact hxy (UInt8.toNat_inj.1 (by omega))
          clear hxy
          go_wp2_with fail
          go_quiet (fail)
          go_wp2
          go_ret
          exact ⟨rfl, below_drewN HB.out _, HE.out⟩
      · exfalso
        rw [List.take_of_length_le (by omega), List.take_of_length_le (by omega)] at htk
        exact unhide HN htk
  · have hll : ((l1.length : Int) != (l2.length : Int)) = true := by rw [bne_iff_ne]; omega
    clear hlen
    go_enter Tryd.func43, Tryd.ntmps43
    go_wp2
    go_ret
    exact ⟨rfl, Below.refl _ _, rfl⟩

theorem flat_len_take (ls : List (List UInt8)) (k : Nat) : (ls.take k).flatten.length ≤ ls.flatten.length := by
  conv => rhs; rw [← List.take_append_drop k ls, List.flatten_append, List.length_append]
  omega

set_option maxRecDepth 100000 in
set_option maxHeartbeats 1000000 in
theorem concat_any (ls : List (List UInt8)) (A : Option Addr) (n c B : Nat) (w : World) (hn : n = ls.length) (hl : ls.length ≤ 1099511627776) (hf : ls.flatten.length ≤ 1099511627776) (hB : B ≤ w.heap.size) (hA : RowsAt w B A ls) :
    Calls Tryd.prog 46 #[.slice A n c] w fun e w' => ∃ v, e = .returned v ∧ w'.ownsRow w.heap.size 5 1 v ls.flatten.length (byts ls.flatten) ∧ Below w.heap.size w w' := by
  subst hn
  have HR := hide hA
  clear hA
  obtain ⟨i0, hi0, hz0, hz1, hz2⟩ := info_parts info_u8
  go_enter Tryd.func46, Tryd.ntmps46
  go_wp2
  go_loop [3, 11] (fun s i => ∃ k : Nat, k ≤ ls.length ∧ i = .int .i64 k ∧ s = .int .i64 ((ls.take k).flatten.length : Nat)) (fun _ i => ls.length - (intOf i).toNat)
  case atStart => exact ⟨0, Nat.zero_le _, rfl, rfl⟩
  case round =>
    obtain ⟨k, hk, rfl, rfl⟩ := hrel
    have hz := flat_len_take ls k
    by_cases hlt : k < ls.length
    · obtain ⟨ad, rfl, hb, hc⟩ := (unhide HR) (by omega)
      obtain ⟨Ai, ci, hci, hlen, hbs⟩ := hc k hlt
      clear hc
      have HF := Lib.hid (show (ls.take (k + 1)).flatten.length = (ls.take k).flatten.length + ls[k].length by rw [flat_take ls k hlt, List.length_append])
      have hz2' := flat_len_take ls (k + 1)
      rw [flat_take ls k hlt, List.length_append] at hz2'
      generalize ls[k] = l at *
      generalize (ls.take k).flatten.length = z at *
      go_wp2
      go_round
      case rel => exact ⟨k + 1, by omega, by go_num, by rw [HF.out]; go_num⟩
      case measure => simp [intOf]; omega
    · obtain rfl : k = ls.length := by omega
      rw [List.take_length]
      generalize hsz : ls.flatten.length = sz at *
      have HSZ := hide hsz
      clear hsz
      go_wp2_with fail
      refine (grow_nil sz w (by omega)).mono ?_
      rintro e w1 ⟨v0, rfl, hown0, hbe0⟩
      have HO0 := hide hown0
      have HE0 := hide hbe0
      clear hown0 hbe0
      go_wp2_with fail
      go_loopw [6, 27] (fun v i wr => ∃ k : Nat, k ≤ ls.length ∧ i = .int .i64 k ∧ wr.ownsRow w.heap.size 5 1 v (ls.take k).flatten.length (byts (ls.take k).flatten) ∧ Below w.heap.size w wr) (fun _ i _ => ls.length - (intOf i).toNat)
      case atStart => exact ⟨0, Nat.zero_le _, rfl, HO0.out, HE0.out⟩
      case round =>
        obtain ⟨k, hk, rfl, hown, hbe⟩ := hrel
        by_cases hlt : k < ls.length
        · obtain ⟨ad, rfl, hb, hc⟩ := (unhide HR) (by omega)
          obtain ⟨Ai, ci, hci, hlen, hbs⟩ := hc k hlt
          clear hc
          have HF := Lib.hid (flat_take ls k hlt)
          have hz2' := flat_len_take ls (k + 1)
          rw [flat_take ls k hlt, List.length_append, HSZ.out] at hz2'
          have hci' : wr.cell? (ad.add k) = some (.slice Ai ls[k].length ci) := (hbe.cell (by rw [block_of_add]; omega)).trans hci
          have HB2 := hide (hbs.lift (hbe.mono hB) (Nat.le_refl _))
          have HO := hide hown
          clear hci hbs hown
          generalize ls[k] = l at *
          generalize (List.take k ls).flatten = z at *
          go_wp2_with (at_builtin; refine wpList_append_any _ rfl (.tmp 31) (.tmp 32) _ rfl w.heap.size 5 i0 _ 1 1 Tryd.underlying23 hi0 hz0 hz1 hz2 rfl (by omega) u6 z.length (byts z) rfl (unhide HO) B Ai l.length ci (byts l) rfl (unhide HB2) byts_one (by simp only [maxLen]; omega) (by omega) hbe.size ?_; intro v1 w2 hown1 hg1 hat1)
          have HO1 : Hid (w2.ownsRow w.heap.size 5 1 v1 (z ++ l).length (byts (z ++ l))) := by rw [byts_append, List.length_append]; exact hown1
          go_roundw
          case rel => exact ⟨k + 1, by omega, by go_num, by rw [HF.out]; exact HO1.out, hbe.grown hg1 hbe.size (fun g hg => (World.ownsRow.lt (unhide HO) g hg).1)⟩
          case measure => simp [intOf]; omega
        · rw [List.take_of_length_le (by omega), HSZ.out] at hown
          go_wp2
          go_ret
          exact ⟨_, rfl, by rw [HSZ.out]; exact hown, hbe⟩
end Go.Proofs.YtenhjnicadjbaaaDoor
