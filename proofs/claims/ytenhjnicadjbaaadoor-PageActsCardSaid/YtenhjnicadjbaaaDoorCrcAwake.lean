/-
  The walks of icehouselaw12's awake and joined. Conditions: the slices read as lists of bytes; the table half reads as the text lays it.
-/
import Derived.Test.YtenhjnicadjbaaaDoorCrcWalk
namespace Go.Proofs.YtenhjnicadjbaaaDoor
open Go Go.RowKit

theorem info_u8 : (Tryd.prog.info? 5).map (fun i => (i.zero, i.size, i.bytes)) = some (some (.int .u8 0), 1, 1) := by kernel_rfl

theorem HalfAt.below {w w' : World} (h : HalfAt w) (hb : Below w.heap.size w w') : HalfAt w' :=
  ⟨Nat.lt_of_lt_of_le h.1 hb.size, fun i hi => (hb.cell (p := ⟨0, i, none⟩) h.1).trans (h.2 i hi)⟩
theorem BytesAt.lift {w w' : World} {B B' : Nat} {A : Option Addr} {l : List UInt8} (h : BytesAt w B A l) (hb : Below B w w') (hB : B ≤ B') : BytesAt w' B' A l :=
  (Reads.below h hb).more hB
theorem RowsAt.nil (w : World) (B : Nat) (A : Option Addr) : RowsAt w B A [] := fun h => absurd h (by simp)
theorem RowsAt.lift {w w' : World} {B B' : Nat} {A : Option Addr} {ls : List (List UInt8)} (h : RowsAt w B A ls) (hb : Below B w w') (hB : B ≤ B') : RowsAt w' B' A ls := fun hl => by
  obtain ⟨ad, rfl, hlt, hc⟩ := h hl
  refine ⟨ad, rfl, by omega, fun i hi => ?_⟩
  obtain ⟨Ai, ci, h1, h2, h3⟩ := hc i hi
  exact ⟨Ai, ci, (hb.cell (by rw [block_of_add]; exact hlt)).trans h1, h2, h3.lift hb hB⟩

def digits9 : List UInt8 := [49, 50, 51, 52, 53, 54, 55, 56, 57]
theorem crc_digits : crcN digits9 = 3421780262 := by decide +kernel
theorem crc_nil : crcN [] = 0 := by decide

theorem add_flat (b o j : Nat) : (Addr.add ⟨b, o, none⟩ j) = ⟨b, o + j, none⟩ := by
  unfold Addr.add
  split
  · rename_i h; subst h; rfl
  · rfl
theorem cell_new (w : World) (C : Array Value) (t : TypeId) (f : Nat × Nat) (j : Nat) : (w.alloc (.cells C t f)).cell? ⟨w.heap.size, j, none⟩ = C[j]? :=
  cell_of_row _ _ _ _ _ _ (heap_alloc_new w _)
/-- a slice of slices in a new block -/
theorem RowsAt.one {w : World} {A : Option Addr} {l : List UInt8} {n c : Nat} {t : TypeId} {f : Nat × Nat} {g : Nat} (hg : g = w.heap.size) (hn : n = l.length) (h : BytesAt w g A l) (hc : l.length ≤ c) :
    RowsAt (w.alloc (.cells #[.slice A n c] t f)) (g + 1) (some ⟨g, 0, none⟩) [l] := fun _ => by
  subst hn hg
  refine ⟨_, rfl, by simp, fun i hi => ?_⟩
  obtain rfl : i = 0 := by simpa using hi
  refine ⟨A, c, ?_, hc, (Reads.alloc h (Nat.le_refl _) _).more (by omega)⟩
  rw [add_flat, cell_new]
  rfl

/-- a new block of bytes -/
theorem BytesAt.new (w : World) (l : List UInt8) (C : Array Value) (t : TypeId) (f : Nat × Nat) (hC : C = (byts l).toArray) : BytesAt (w.alloc (.cells C t f)) (w.heap.size + 1) (some ⟨w.heap.size, 0, none⟩) l := by
  refine ⟨by simp [byts], fun _ => ⟨_, rfl, by simp, fun j u hu => ?_⟩⟩
  subst hC
  rw [add_flat, cell_new, ← hu]
  simp

def digitsC : Array Value := #[.int .u8 49, .int .u8 50, .int .u8 51, .int .u8 52, .int .u8 53, .int .u8 54, .int .u8 55, .int .u8 56, .int .u8 57]
theorem digitsC_eq : digitsC = (byts digits9).toArray := rfl

set_option maxRecDepth 100000 in
set_option maxHeartbeats 400000 in
theorem awake12 (w : World) (hh : HalfAt w) :
    Calls Tryd.prog 13 #[] w fun e w' => e = .returned (.bool true) ∧ Below w.heap.size w w' := by
  have hcv := fun (w : World) (C : Array Value) (n c : Nat) => Lib.run_convert_bytes_const (P := Tryd.prog) w 23 5 C n c Tryd.underlying23 Tryd.underlying5
  have HH := hide hh
  clear hh
  go_enter Tryd.func13, Tryd.ntmps13
  go_wp2_with fail
  clear hcv
  have HB : Hid (BytesAt (w.alloc (.cells digitsC 5 (9, 10))) (w.heap.size + 1) (some ⟨w.heap.size, 0, none⟩) digits9) := BytesAt.new _ _ _ _ _ digitsC_eq
  have hbe1 : Below w.heap.size w (w.alloc (.cells digitsC 5 (9, 10))) := (Below.refl _ _).alloc (Nat.le_refl _) _
  have hbe := hbe1.alloc (by simp) (.cells #[.slice (some ⟨w.heap.size, 0, none⟩) 9 9] 23)
  have HE := hide hbe
  clear hbe hbe1
  refine (sum_any [digits9] (some ⟨w.heap.size + 1, 0, none⟩) 1 1 (w.heap.size + 2) _ rfl (by decide) (by decide) ?_ ?_).mono ?_
  · exact RowsAt.one (w := w.alloc (.cells digitsC 5 (9, 10))) (n := 9) (c := 9) (g := w.heap.size + 1) (by simp) rfl (unhide HB) (by decide)
  · exact (unhide HH).below (unhide HE)
  rintro e w' ⟨rfl, rfl⟩
  have HX : Hid ((crcN [digits9].flatten : Nat) = 3421780262) := by show crcN [digits9].flatten = _; simp [crc_digits]
  rw [HX.out]
  go_wp2_with fail
  refine (sum_any [] none 0 0 0 _ rfl (by decide) (by decide) (RowsAt.nil _ _ _) ?_).mono ?_
  · exact (unhide HH).below (unhide HE)
  rintro e w' ⟨rfl, rfl⟩
  have HY : Hid ((crcN ([] : List (List UInt8)).flatten : Nat) = 0) := by show crcN ([] : List (List UInt8)).flatten = _; simp [crc_nil]
  rw [HY.out]
  go_wp2
  go_ret
  exact ⟨rfl, unhide HE⟩

def JoinedYes (ls : List (List UInt8)) (w : World) (e : Ending) (w' : World) : Prop :=
  ∃ A' c', e = .returned (.tuple #[.slice A' ls.flatten.length c', .bool true]) ∧ ls.flatten.length ≤ c' ∧ BytesAt w' w'.heap.size A' ls.flatten ∧ Below w.heap.size w w'
theorem own_slice {w : World} {base : Nat} {l : List UInt8} {v : Value} (h : w.ownsRow base 5 1 v l.length (byts l)) : ∃ A c, v = .slice A l.length c ∧ l.length ≤ c ∧ BytesAt w w.heap.size A l := by
  rcases h.2 with ⟨rfl, h0⟩ | ⟨g, cap, cur, rfl, hb, hg, hn, _⟩
  · exact ⟨none, 0, by rw [h0], by omega, Reads.of_own (n := l.length) (c := 0) (by rw [h0] at h ⊢; exact h)⟩
  · exact ⟨_, _, rfl, hn, Reads.of_own h⟩

set_option maxRecDepth 100000 in
set_option maxHeartbeats 400000 in
theorem joined_yes (ls : List (List UInt8)) (A : Option Addr) (n c : Nat) (w : World) (hn : n = ls.length) (hl : ls.length ≤ 21)
    (hlx : ∀ l ∈ ls, l.length ≤ 500) (hA : RowsAt w w.heap.size A ls) :
    Calls Tryd.prog 12 #[.slice A n c] w (JoinedYes ls w) := by
  subst hn
  obtain ⟨i0, hi0, hz0, hz1, hz2⟩ := info_parts info_u8
  go_enter Tryd.func12, Tryd.ntmps12
  go_wp2
  go_loopw [4, 5] (fun v i wr => ∃ k : Nat, k ≤ ls.length ∧ i = .int .i64 k ∧ (ls.take k).flatten.length ≤ k * 500 ∧ wr.ownsRow w.heap.size 5 1 v (ls.take k).flatten.length (byts (ls.take k).flatten) ∧ Below w.heap.size w wr) (fun _ i _ => ls.length - (intOf i).toNat)
  case atStart => exact ⟨0, Nat.zero_le _, rfl, by simp, ⟨by simp [byts], .inl ⟨rfl, rfl⟩⟩, Below.refl _ _⟩
  case round =>
    obtain ⟨k, hk, rfl, htk, hown, hbe⟩ := hrel
    by_cases hlt : k < ls.length
    · obtain ⟨ad, rfl, hb, hc⟩ := hA (by omega)
      obtain ⟨Ai, ci, hci, hlen, hbs⟩ := hc k hlt
      clear hc
      have hlk := hlx ls[k] (List.getElem_mem hlt)
      have HF := Lib.hid (flat_take ls k hlt)
      have hci' : wr.cell? (ad.add k) = some (.slice Ai ls[k].length ci) := (hbe.cell (by rw [block_of_add]; exact hb)).trans hci
      have HB := hide (hbs.lift hbe (Nat.le_refl _))
      have HO := hide hown
      clear hci hlx hbs hown
      generalize ls[k] = l at *
      have h20 : decide ((20 : Int) < (k : Int)) = false := by simp; omega
      have h500 : decide ((500 : Int) < (l.length : Int)) = false := by simp; omega
      generalize (List.take k ls).flatten = z at *
      go_wp2_with (at_builtin; refine wpList_append_any _ rfl (.tmp 22) (.tmp 26) _ rfl w.heap.size 5 i0 _ 1 1 Tryd.underlying23 hi0 hz0 hz1 hz2 rfl (by omega) u4 z.length (byts z) rfl (unhide HO) w.heap.size Ai l.length ci (byts l) rfl (unhide HB) byts_one (by simp only [maxLen]; omega) (by omega) hbe.size ?_; intro v1 w1 hown1 hg1 hat1)
      have HO1 : Hid (w1.ownsRow w.heap.size 5 1 v1 (z ++ l).length (byts (z ++ l))) := by rw [byts_append, List.length_append]; exact hown1
      go_roundw
      case rel => exact ⟨k + 1, by omega, by go_num, by rw [HF.out, List.length_append]; omega, by rw [HF.out]; exact HO1.out, hbe.grown hg1 hbe.size (fun g hg => (World.ownsRow.lt (unhide HO) g hg).1)⟩
      case measure => simp [intOf]; omega
    · rw [List.take_of_length_le (by omega)] at hown
      obtain ⟨A', c', rfl, h1, h2⟩ := own_slice hown
      go_wp2
      go_ret2
      exact ⟨A', c', rfl, h1, h2, hbe⟩

def JoinedNo (w : World) (e : Ending) (w' : World) : Prop := e = .returned (.tuple #[.slice none 0 0, .bool false]) ∧ Below w.heap.size w w'
def fits (ls : List (List UInt8)) : Bool := decide (ls.length ≤ 21) && ls.all fun l => decide (l.length ≤ 500)

set_option maxRecDepth 100000 in
set_option maxHeartbeats 400000 in
theorem joined_no (ls : List (List UInt8)) (A : Option Addr) (n c : Nat) (w : World) (hn : n = ls.length) (hno : fits ls = false) (hA : RowsAt w w.heap.size A ls) :
    Calls Tryd.prog 12 #[.slice A n c] w (JoinedNo w) := by
  subst hn
  have HN := Lib.hid hno
  clear hno
  obtain ⟨i0, hi0, hz0, hz1, hz2⟩ := info_parts info_u8
  go_enter Tryd.func12, Tryd.ntmps12
  go_wp2
  go_loopw [4, 5] (fun v i wr => ∃ k : Nat, k ≤ ls.length ∧ k ≤ 21 ∧ (∀ l ∈ ls.take k, l.length ≤ 500) ∧ i = .int .i64 k ∧ (ls.take k).flatten.length ≤ k * 500 ∧ wr.ownsRow w.heap.size 5 1 v (ls.take k).flatten.length (byts (ls.take k).flatten) ∧ Below w.heap.size w wr) (fun _ i _ => ls.length - (intOf i).toNat)
  case atStart => exact ⟨0, Nat.zero_le _, by omega, by simp, rfl, by simp, ⟨by simp [byts], .inl ⟨rfl, rfl⟩⟩, Below.refl _ _⟩
  case round =>
    obtain ⟨k, hk, h21, hall, rfl, htk, hown, hbe⟩ := hrel
    have HA := hide hall
    by_cases hlt : k < ls.length
    · obtain ⟨ad, rfl, hb, hc⟩ := hA (by omega)
      obtain ⟨Ai, ci, hci, hlen, hbs⟩ := hc k hlt
      clear hc hall
      have HF := Lib.hid (flat_take ls k hlt)
      have HT := Lib.hid (show ls.take (k + 1) = ls.take k ++ [ls[k]] from List.take_succ_eq_append_getElem hlt)
      have hci' : wr.cell? (ad.add k) = some (.slice Ai ls[k].length ci) := (hbe.cell (by rw [block_of_add]; exact hb)).trans hci
      have HB := hide (hbs.lift hbe (Nat.le_refl _))
      have HO := hide hown
      clear hci hbs hown
      generalize ls[k] = l at *
      by_cases hk20 : k ≤ 20
      · have h20 : decide ((20 : Int) < (k : Int)) = false := by simp; omega
        by_cases hl5 : l.length ≤ 500
        · have h500 : decide ((500 : Int) < (l.length : Int)) = false := by simp; omega
          generalize (List.take k ls).flatten = z at *
          go_wp2_with (at_builtin; refine wpList_append_any _ rfl (.tmp 22) (.tmp 26) _ rfl w.heap.size 5 i0 _ 1 1 Tryd.underlying23 hi0 hz0 hz1 hz2 rfl (by omega) u4 z.length (byts z) rfl (unhide HO) w.heap.size Ai l.length ci (byts l) rfl (unhide HB) byts_one (by simp only [maxLen]; omega) (by omega) hbe.size ?_; intro v1 w1 hown1 hg1 hat1)
          have HO1 : Hid (w1.ownsRow w.heap.size 5 1 v1 (z ++ l).length (byts (z ++ l))) := by rw [byts_append, List.length_append]; exact hown1
          go_roundw
          case rel => exact ⟨k + 1, by omega, by omega, by rw [HT.out]; intro l' hl'; rcases List.mem_append.1 hl' with h | h; exact unhide HA l' h; rw [List.mem_singleton.1 h]; exact hl5, by go_num, by rw [HF.out, List.length_append]; omega, by rw [HF.out]; exact HO1.out, hbe.grown hg1 hbe.size (fun g hg => (World.ownsRow.lt (unhide HO) g hg).1)⟩
          case measure => simp [intOf]; omega
        · have h500 : decide ((500 : Int) < (l.length : Int)) = true := by simp; omega
          go_wp2
          go_ret2
          exact ⟨rfl, hbe⟩
      · have h20 : decide ((20 : Int) < (k : Int)) = true := by simp; omega
        go_wp2
        go_ret2
        exact ⟨rfl, hbe⟩
    · exfalso
      rw [List.take_of_length_le (by omega)] at hall
      have h2 : fits ls = true := by
        unfold fits
        simp only [Bool.and_eq_true, decide_eq_true_eq, List.all_eq_true]
        exact ⟨by omega, hall⟩
      rw [HN.out] at h2
      cases h2
theorem fits_yes {ls : List (List UInt8)} (h : fits ls = true) : ls.length ≤ 21 ∧ ∀ l ∈ ls, l.length ≤ 500 := by
  unfold fits at h
  simp only [Bool.and_eq_true, decide_eq_true_eq, List.all_eq_true] at h
  exact h
/- cutting -/
theorem BytesAt.take {w : World} {B : Nat} {A : Option Addr} {l : List UInt8} (h : BytesAt w B A l) (k : Nat) : BytesAt w B A (l.take k) := by
  refine ⟨by simp [byts], fun hn => ?_⟩
  obtain ⟨ad, e, hb, hc⟩ := h.2 (by rw [List.length_take] at hn; omega)
  refine ⟨ad, e, hb, fun j u hu => hc j u ?_⟩
  rw [← hu]
  simp only [byts, List.map_take]
  rw [List.getElem?_take_of_lt]
  have := (List.getElem?_eq_some_iff.1 hu).1
  simp [byts] at this
  omega
theorem cut_front (P : Program) (t e : TypeId) (ht : P.underlying t = some (.slice e)) (he : P.elem t = e) (hs : ((P.info? e).map (·.size)) = some 1) (A : Option Addr) (n c k : Nat) (hk : k ≤ c) (w : World) :
    (Instr.slice t (.slice A n c) none (some (.int .i64 (k : Int))) none).run P w = .ok (.slice A k c) w := by
  subst he
  rw [run_slice_h w t A n c ht .i64 k (by omega) (by omega)]
  obtain ⟨i, hi, hz⟩ := Option.map_eq_some_iff.1 hs
  simp [sizeOf, typeInfo, hi, sliced, Addr.add_zero']
theorem cut_back (P : Program) (t e : TypeId) (ht : P.underlying t = some (.slice e)) (he : P.elem t = e) (hs : ((P.info? e).map (·.size)) = some 1) (A : Option Addr) (n c k : Nat) (hk : k ≤ n) (w : World) :
    (Instr.slice t (.slice A n c) (some (.int .i64 (k : Int))) none none).run P w = .ok (.slice (if c = k then A else A.map (·.add k)) (n - k) (c - k)) w := by
  subst he
  rw [run_slice_l w t A n c ht .i64 k (by omega) (by omega)]
  obtain ⟨i, hi, hz⟩ := Option.map_eq_some_iff.1 hs
  simp [sizeOf, typeInfo, hi, sliced, hz]
theorem BytesAt.cut {w : World} {B : Nat} {A : Option Addr} {l : List UInt8} (h : BytesAt w B A l) {k c : Nat} (hk : k ≤ l.length) (hc : l.length ≤ c) :
    BytesAt w B (if c = k then A else A.map (·.add k)) (l.drop k) := by
  have := Reads.cut (size := 1) h hk hc
  unfold BytesAt
  simpa [byts] using this
theorem cut_front8 (A : Option Addr) (n c k : Nat) (hk : k ≤ c) (w : World) :
    (Instr.slice 23 (.slice A n c) none (some (.int .i64 (k : Int))) none).run Tryd.prog w = .ok (.slice A k c) w :=
  cut_front _ _ 5 Tryd.underlying23 (by kernel_rfl) (by kernel_rfl) A n c k hk w
theorem cut_back8 (A : Option Addr) (n c k : Nat) (hk : k ≤ n) (w : World) :
    (Instr.slice 23 (.slice A n c) (some (.int .i64 (k : Int))) none none).run Tryd.prog w = .ok (.slice (if c = k then A else A.map (·.add k)) (n - k) (c - k)) w :=
  cut_back _ _ 5 Tryd.underlying23 (by kernel_rfl) (by kernel_rfl) A n c k hk w

/-- three slices in a new block -/
theorem RowsAt.three {w : World} {A1 A2 A3 : Option Addr} {l1 l2 l3 : List UInt8} {n1 n2 n3 c1 c2 c3 : Nat} {t : TypeId} {f : Nat × Nat} {g : Nat} (hg : g = w.heap.size) (hn1 : n1 = l1.length) (hn2 : n2 = l2.length) (hn3 : n3 = l3.length)
    (h1 : BytesAt w g A1 l1) (h2 : BytesAt w g A2 l2) (h3 : BytesAt w g A3 l3) (hc1 : l1.length ≤ c1) (hc2 : l2.length ≤ c2) (hc3 : l3.length ≤ c3) :
    RowsAt (w.alloc (.cells #[.slice A1 n1 c1, .slice A2 n2 c2, .slice A3 n3 c3] t f)) (g + 1) (some ⟨g, 0, none⟩) [l1, l2, l3] := fun _ => by
  subst hn1 hn2 hn3 hg
  refine ⟨_, rfl, by simp, fun i hi => ?_⟩
  match i, hi with
  | 0, _ => exact ⟨A1, c1, by rw [add_flat, cell_new]; rfl, hc1, (Reads.alloc h1 (Nat.le_refl _) _).more (by omega)⟩
  | 1, _ => exact ⟨A2, c2, by rw [add_flat, cell_new]; rfl, hc2, (Reads.alloc h2 (Nat.le_refl _) _).more (by omega)⟩
  | 2, _ => exact ⟨A3, c3, by rw [add_flat, cell_new]; rfl, hc3, (Reads.alloc h3 (Nat.le_refl _) _).more (by omega)⟩
  | n + 3, h => exact absurd h (by simp)
/-- rows known by their cells -/
theorem RowsAt.one_cell {W : World} {B g n c : Nat} {A : Option Addr} {l : List UInt8} (hg : g < B) (hn : n = l.length) (hc : l.length ≤ c) (hcell : W.cell? ⟨g, 0, none⟩ = some (.slice A n c)) (h : BytesAt W B A l) : RowsAt W B (some ⟨g, 0, none⟩) [l] := fun _ => by
  subst hn
  refine ⟨_, rfl, hg, fun i hi => ?_⟩
  obtain rfl : i = 0 := by simpa using hi
  exact ⟨A, c, hcell, hc, h⟩
theorem RowsAt.three_cells {W : World} {B g n1 n2 n3 c1 c2 c3 : Nat} {A1 A2 A3 : Option Addr} {l1 l2 l3 : List UInt8} (hg : g < B) (hn1 : n1 = l1.length) (hn2 : n2 = l2.length) (hn3 : n3 = l3.length) (hc1 : l1.length ≤ c1) (hc2 : l2.length ≤ c2) (hc3 : l3.length ≤ c3)
    (k1 : W.cell? ⟨g, 0, none⟩ = some (.slice A1 n1 c1)) (k2 : W.cell? ⟨g, 1, none⟩ = some (.slice A2 n2 c2)) (k3 : W.cell? ⟨g, 2, none⟩ = some (.slice A3 n3 c3))
    (h1 : BytesAt W B A1 l1) (h2 : BytesAt W B A2 l2) (h3 : BytesAt W B A3 l3) : RowsAt W B (some ⟨g, 0, none⟩) [l1, l2, l3] := fun _ => by
  subst hn1 hn2 hn3
  refine ⟨_, rfl, hg, fun i hi => ?_⟩
  match i, hi with
  | 0, _ => exact ⟨A1, c1, k1, hc1, h1⟩
  | 1, _ => exact ⟨A2, c2, by rw [add_flat]; exact k2, hc2, h2⟩
  | 2, _ => exact ⟨A3, c3, by rw [add_flat]; exact k3, hc3, h3⟩
  | n + 3, h => exact absurd h (by simp)
theorem BytesAt.nil (w : World) (B : Nat) (A : Option Addr) : BytesAt w B A [] := ⟨rfl, fun h => absurd h (by simp)⟩
theorem cut_mid8 (A : Option Addr) (n c i j : Nat) (hi : i ≤ j) (hj : j ≤ c) (w : World) :
    (Instr.slice 23 (.slice A n c) (some (.int .i64 (i : Int))) (some (.int .i64 (j : Int))) none).run Tryd.prog w = .ok (.slice (if c = i then A else A.map (·.add i)) (j - i) (c - i)) w := by
  have ht : Tryd.prog.underlying 23 = some (.slice (Tryd.prog.elem 23)) := by kernel_rfl
  rw [run_slice_lh w 23 A n c ht .i64 .i64 i j (by omega) (by omega) (by omega)]
  have hs : ((Tryd.prog.info? (Tryd.prog.elem 23)).map (·.size)) = some 1 := by kernel_rfl
  obtain ⟨q, hq, hz⟩ := Option.map_eq_some_iff.1 hs
  simp [sizeOf, typeInfo, hq, sliced, hz]
theorem BytesAt.mid {w : World} {B : Nat} {A : Option Addr} {l : List UInt8} (h : BytesAt w B A l) {i j c : Nat} (hi : i ≤ j) (hj : j ≤ l.length) (hc : l.length ≤ c) :
    BytesAt w B (if c = i then A else A.map (·.add i)) ((l.drop i).take (j - i)) := (BytesAt.cut h (by omega) hc).take _
end Go.Proofs.YtenhjnicadjbaaaDoor
