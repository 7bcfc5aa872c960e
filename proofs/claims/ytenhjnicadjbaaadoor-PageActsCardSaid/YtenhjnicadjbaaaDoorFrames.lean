/-
  The walks of crc.Frame, icehouseref12.Frame, crc.Open. Conditions: the slices read as lists of bytes; the table half reads as the text lays it.
-/
import Derived.Test.YtenhjnicadjbaaaDoorSlices
import Derived.Test.YtenhjnicadjbaaaDoorRefCrc
import Derived.Deep.RegionHeld3
namespace Go.Proofs.YtenhjnicadjbaaaDoor
open Go Go.RowKit

def frameL (l : List UInt8) : List UInt8 := l ++ le4 (crcN l)
theorem frameL_len (l : List UInt8) : (frameL l).length = l.length + 4 := by simp [frameL, le4]

set_option maxRecDepth 100000 in
set_option maxHeartbeats 1000000 in
theorem frame_any (ls : List (List UInt8)) (A : Option Addr) (n c B : Nat) (w : World) (hn : n = ls.length) (hl : ls.length ≤ 1099511627776) (hf : ls.flatten.length ≤ 1099511627776) (hlx : ∀ l ∈ ls, l.length ≤ 1099511627776) (hB : B ≤ w.heap.size) (hA : RowsAt w B A ls) (hh : HalfAt w) :
    Calls Tryd.prog 21 #[.slice A n c] w fun e w' => ∃ v, e = .returned v ∧ w'.ownsRow w.heap.size 5 1 v (frameL ls.flatten).length (byts (frameL ls.flatten)) ∧ Below w.heap.size w w' := by
  subst hn
  have HC := hide (concat_any ls A ls.length c B w rfl hl hf hB hA)
  have HS := hide (fun (W : World) (hW : Below w.heap.size w W) => sum_any ls A ls.length c B W rfl hl hlx (hA.lift (hW.mono hB) (Nat.le_refl _)) (hh.below hW))
  have hcl := crcN_lt ls.flatten
  have HL : Hid (frameL ls.flatten = ls.flatten ++ le4 (crcN ls.flatten)) := rfl
  have hfl := frameL_len ls.flatten
  obtain ⟨i0, hi0, hz0, hz1, hz2⟩ := info_parts info_u8
  clear hlx hA hh
  generalize frameL ls.flatten = fl at *
  generalize crcN ls.flatten = cr at *
  generalize ls.flatten = all at *
  have HF := hide hfl
  clear hfl
  go_enter Tryd.func21, Tryd.ntmps21
  go_wp2_with fail
  refine (unhide HC).mono ?_
  rintro e w1 ⟨v1, rfl, hown1, hbe1⟩
  have HO1 := hide hown1
  have HE1 := hide hbe1
  clear hown1 hbe1
  go_wp2_with fail
  refine (unhide HS w1 HE1.out).mono ?_
  rintro e w' ⟨rfl, rfl⟩
  go_wp2_with fail
  refine (four_any cr hcl w1).mono ?_
  rintro e w2 ⟨rfl, hw2⟩
  have HE2 : Hid (Below w1.heap.size w1 w2) := by rw [hw2]; exact Below.alloc (Below.refl _ _) (Nat.le_refl _) _
  have HO2 : Hid (w2.ownsRow w.heap.size 5 1 v1 all.length (byts all)) := by rw [hw2]; exact World.ownsRow.alloc HO1.out _
  have HB2 : Hid (BytesAt w2 w2.heap.size (some ⟨w1.heap.size, 0, none⟩) (le4 cr)) := by
    rw [hw2]
    have := BytesAt.new w1 (le4 cr) (byts (le4 cr)).toArray 5 (0, 0) rfl
    rw [World.size_alloc]
    exact this
  clear hw2
  go_wp2_with (at_builtin; refine wpList_append_any _ rfl (.tmp 4) (.tmp 7) _ rfl w.heap.size 5 i0 _ 1 1 Tryd.underlying23 hi0 hz0 hz1 hz2 rfl (by omega) v1 all.length (byts all) rfl HO2.out w2.heap.size (some ⟨w1.heap.size, 0, none⟩) 4 4 (byts (le4 cr)) rfl HB2.out byts_one (by simp only [maxLen]; omega) (by omega) (Nat.le_trans HE1.out.size HE2.out.size) ?_; intro v3 w3 hown3 hg3 hat3)
  go_ret
  refine ⟨v3, rfl, ?_, ?_⟩
  · rw [HF.out, HL.out, byts_append]
    exact hown3
  · exact (HE1.out.trans (HE2.out.mono HE1.out.size)).grown hg3 (Nat.le_trans HE1.out.size HE2.out.size) fun g hg => (World.ownsRow.lt HO2.out g hg).1

set_option maxRecDepth 100000 in
set_option maxHeartbeats 1000000 in
theorem refFrame_any (l : List UInt8) (A : Option Addr) (n c B : Nat) (w : World) (hn : n = l.length) (hl : l.length ≤ 1099511627776) (hA : BytesAt w B A l) :
    Calls Tryd.prog 17 #[.slice A n c] w fun e w' => ∃ v, e = .returned v ∧ w'.ownsRow w.heap.size 5 1 v (frameL l).length (byts (frameL l)) ∧ Below w.heap.size w w' := by
  subst hn
  have HS := hide (refSum_any l A l.length c B w rfl hl hA)
  have HA := hide hA
  have hcl := crcN_lt l
  have HL : Hid (frameL l = l ++ le4 (crcN l)) := rfl
  have HF := hide (frameL_len l)
  obtain ⟨i0, hi0, hz0, hz1, hz2⟩ := info_parts info_u8
  clear hA
  generalize frameL l = fl at *
  generalize crcN l = cr at *
  have HC4 := hide (le4_cells cr hcl)
  go_enter Tryd.func17, Tryd.ntmps17
  go_wp2_with fail
  refine (unhide HS).mono ?_
  rintro e w' ⟨rfl, rfl⟩
  go_wp2_with (first
    | (at_builtin; refine wpList_append_any _ rfl (.tmp 7) (.tmp 8) _ rfl w.heap.size 5 i0 _ 1 1 Tryd.underlying23 hi0 hz0 hz1 hz2 rfl (by omega) (.slice none 0 0) 0 [] rfl (World.ownsRow_nil _ _ _ _) B A l.length c (byts l) rfl HA.out byts_one (by simp only [maxLen]; omega) (by omega) (Nat.le_refl _) ?_; intro v1 w1 hown1 hg1 hat1)
    | (at_builtin; refine wpList_append_any _ rfl (.tmp 10) (.tmp 25) _ rfl w.heap.size 5 i0 _ 1 1 Tryd.underlying23 hi0 hz0 hz1 hz2 rfl (by omega) v1 (0 + l.length) ([] ++ byts l) rfl (World.ownsRow.alloc hown1 _) (w1.heap.size + 1) (some ⟨w1.heap.size, 0, none⟩) 4 4 (byts (le4 cr)) rfl (BytesAt.new w1 (le4 cr) _ 5 (0, 0) HC4.out.symm) byts_one (by simp only [maxLen]; omega) (by omega) (by rw [World.size_alloc]; have := hg1.size; omega) ?_; intro v2 w2 hown2 hg2 hat2))
  go_ret
  refine ⟨v2, rfl, ?_, ?_⟩
  · rw [HF.out, HL.out, byts_append]
    simpa using hown2
  · have hb1 : Below w.heap.size w w1 := (Below.refl _ _).grown hg1 (Nat.le_refl _) (fun k hk => by simp [Value.ownBlock] at hk)
    refine (hb1.alloc hg1.size _).grown hg2 (by rw [World.size_alloc]; have := hg1.size; omega) (fun g hg => ?_)
    exact (World.ownsRow.lt hown1 g hg).1

set_option maxRecDepth 100000 in
set_option maxHeartbeats 1000000 in
theorem open_short (A : Option Addr) (n c : Nat) (w : World) (hn : n < 4) :
    Calls Tryd.prog 18 #[.slice A n c] w fun e w' => e = .returned (.tuple #[.slice none 0 0, .int .i64 11]) ∧ Below w.heap.size w w' := by
  go_enter Tryd.func18, Tryd.ntmps18
  go_wp2_with fail
  go_ret2
  exact ⟨rfl, Below.refl _ _⟩

def framed (l : List UInt8) : Bool := decide (l.drop (l.length - 4) = le4 (crcN (l.take (l.length - 4))))

theorem equal_any (l1 l2 : List UInt8) (A1 A2 : Option Addr) (n1 n2 c1 c2 B : Nat) (w : World) (hn1 : n1 = l1.length) (hn2 : n2 = l2.length) (hl : l1.length ≤ 1099511627776) (hA1 : BytesAt w B A1 l1) (hA2 : BytesAt w B A2 l2) :
    Calls Tryd.prog 43 #[.slice A1 n1 c1, .slice A2 n2 c2] w fun e w' => e = .returned (.bool (decide (l1 = l2))) ∧ Below w.heap.size w w' := by
  by_cases h : l1 = l2
  · subst h
    exact (equal_yes l1 A1 A2 n1 n2 c1 c2 B w hn1 hn2 hl hA1 hA2).mono fun e w' ⟨h1, h2, _⟩ => ⟨by rw [h1]; simp, h2⟩
  · exact (equal_no l1 l2 A1 A2 n1 n2 c1 c2 B w hn1 hn2 hl h hA1 hA2).mono fun e w' ⟨h1, h2, _⟩ => ⟨by rw [h1]; simp [h], h2⟩

theorem own_base {w : World} {b b' : Nat} {e : TypeId} {s n : Nat} {v : Value} {xs : List Value} (h : w.ownsRow b e s v n xs) (hb : b' ≤ b) : w.ownsRow b' e s v n xs := by
  refine ⟨h.1, ?_⟩
  rcases h.2 with h2 | ⟨g, cap, cur, hv, hg, r⟩
  · exact .inl h2
  · exact .inr ⟨g, cap, cur, hv, Nat.le_trans hb hg, r⟩
def OpenOk (l : List UInt8) (k : Nat) (w : World) (e : Ending) (w' : World) : Prop :=
  ∃ v, e = .returned (.tuple #[v, .int .i64 0]) ∧ w'.ownsRow w.heap.size 5 1 v (l.take k).length (byts (l.take k)) ∧ Below w.heap.size w w'
def OpenBad (w : World) (e : Ending) (w' : World) : Prop :=
  e = .returned (.tuple #[.slice none 0 0, .int .i64 33]) ∧ Below w.heap.size w w'

def OpenPost (b : Bool) (l : List UInt8) (k : Nat) (w : World) (e : Ending) (w' : World) : Prop := (b = true → OpenOk l k w e w') ∧ (b = false → OpenBad w e w')

set_option maxRecDepth 100000 in
set_option maxHeartbeats 1000000 in
theorem open_long (l : List UInt8) (A : Option Addr) (n c k : Nat) (w : World) (hn : n = k + 4) (hk : l.length = k + 4) (hl : l.length ≤ 1099511627776) (hc : l.length ≤ c) (hA : BytesAt w w.heap.size A l) (hh : HalfAt w) :
    Calls Tryd.prog 18 #[.slice A n c] w (OpenPost (framed l) l k w) := by
  subst hn
  obtain ⟨ad, rfl⟩ : ∃ ad, A = some ad := let ⟨ad, h, _⟩ := BytesAt.at_ hA (k := 0) (by omega); ⟨ad, h⟩
  have hs1 := fun W => cut_front8 (some ad) (k + 4) c k (by omega) W
  have hs2 := fun W => cut_back8 (some ad) (k + 4) c k (by omega) W
  rw [show k + 4 - k = 4 from by omega, if_neg (by omega)] at hs2
  have HT := hide (BytesAt.take hA k)
  have HD := BytesAt.cut hA (k := k) (by omega) hc
  rw [if_neg (by omega)] at HD
  have HD2 := hide HD
  have lt1 : (l.take k).length = k := by rw [List.length_take]; omega
  have lt2 : (l.drop k).length = 4 := by rw [List.length_drop]; omega
  have hfr : framed l = decide (l.drop k = le4 (crcN (l.take k))) := by
    unfold framed
    rw [show l.length - 4 = k from by omega]
  have SS : ∀ (W : World) (g : Nat), Below w.heap.size w W → g < W.heap.size → W.cell? ⟨g, 0, none⟩ = some (.slice (some ad) k c) →
      Calls Tryd.prog 15 #[.slice (some ⟨g, 0, none⟩) 1 1] W fun e w' => e = .returned (.int .u32 (crcN (l.take k) : Nat)) ∧ W = w' := fun W g hW hg hcl => by
    have := sum_any [l.take k] (some ⟨g, 0, none⟩) 1 1 W.heap.size W rfl (by simp) (fun x hx => by rw [List.mem_singleton.1 hx]; omega)
      (RowsAt.one_cell hg lt1.symm (by omega) hcl (HT.out.lift hW hW.size)) (hh.below hW)
    simpa using this
  have hcl := crcN_lt (l.take k)
  have SE : ∀ (W : World) (A4 : Option Addr), Below w.heap.size w W → BytesAt W W.heap.size A4 (le4 (crcN (l.take k))) → Calls Tryd.prog 43 #[.slice (Option.map (fun x => x.add k) (some ad)) 4 (c - k), .slice A4 4 4] W fun e w' => e = .returned (.bool (framed l)) ∧ Below W.heap.size W w' := fun W A4 hW h4 => by
    rw [hfr]
    exact equal_any (l.drop k) (le4 (crcN (l.take k))) _ _ 4 4 _ _ W.heap.size W lt2.symm rfl (by omega) (HD2.out.lift hW hW.size) h4
  have SC := hide (fun (W : World) (hW : Below w.heap.size w W) => clone_some (l.take k) ad k c w.heap.size W lt1.symm (by omega) hW.size (HT.out.lift hW (Nat.le_refl _)))
  have S1 := hide SS
  have S2 := hide SE
  have hkb : k ≤ 1099511627776 := by omega
  clear SS SE HD hfr lt1 lt2 hA hh hk
  generalize hb : framed l = b at *
  clear hb
  generalize crcN (l.take k) = cr at *
  simp only [Option.map_some] at hs2 S2
  generalize ad.add k = ad2 at *
  go_enter Tryd.func18, Tryd.ntmps18
  go_wp2_with fail
  go_region_held3 (fun W => Below w.heap.size w W) (first | assumption | exact (Below.refl _ _).drew | (refine Below.alloc (by assumption) ?_ _; exact Below.size (by assumption))) (first
    | (go_at_call 15; (with_reducible refine (unhide S1 _ _ ?_ ?_ ?_).mono ?_); assumption; (simp <;> omega); exact cellD (cellN rfl rfl); rintro e w' ⟨rfl, rfl⟩)
    | (go_at_call 44; (with_reducible refine (four_at _ hcl _).mono ?_); rintro e w4 ⟨A4, rfl, hb4, hbe4⟩; have hq4 : Below w.heap.size w w4 := Below.trans (by assumption) (hbe4.mono (Below.size (by assumption))); clear hbe4)
    | (go_at_call 43; (with_reducible refine (unhide S2 _ _ ?_ ?_).mono ?_); assumption; assumption; rintro e w5 ⟨rfl, hbe5⟩; have hq5 : Below w.heap.size w w5 := Below.trans (by assumption) (hbe5.mono (Below.size (by assumption))); clear hbe5))
  cases b
  · go_wp2
    go_ret2
    exact ⟨fun h => (by cases h), fun _ => ⟨rfl, by assumption⟩⟩
  · go_wp2_with fail
    refine (unhide SC _ hq5).mono ?_
    rintro e w6 ⟨v6, rfl, hown6, hbe6⟩
    have HO := hide hown6
    have HE := hide hbe6
    clear hown6 hbe6
    go_wp2
    go_ret2
    refine ⟨fun _ => ⟨v6, rfl, ?_, hq5.trans (HE.out.mono hq5.size)⟩, fun h => (by cases h)⟩
    exact own_base HO.out hq5.size
end Go.Proofs.YtenhjnicadjbaaaDoor
