/-
  Words on bytes, rows of bytes, cuts, strings (the same as in the other seat, without the check sums). Conditions: each theorem's own.
-/
import Derived.Test.YtogjdfiimflbaaaMem
import Derived.Laws.OwnMore
import Derived.BigRegion
namespace Go.Proofs.Ytogjdfiimflbaaa
open Go Go.RowKit

theorem take_snoc (l : List UInt8) (k : Nat) (h : k < l.length) : l.take (k + 1) = l.take k ++ [l[k]] := by
  rw [List.take_succ_eq_append_getElem h]

def RowsAt (w : World) (B : Nat) (A : Option Addr) (ls : List (List UInt8)) : Prop :=
  0 < ls.length → ∃ ad, A = some ad ∧ ad.block < B ∧ ∀ i (h : i < ls.length), ∃ Ai ci, w.cell? (ad.add i) = some (.slice Ai ls[i].length ci) ∧ ls[i].length ≤ ci ∧ BytesAt w B Ai ls[i]

theorem flat_take (ls : List (List UInt8)) (k : Nat) (h : k < ls.length) : (ls.take (k + 1)).flatten = (ls.take k).flatten ++ ls[k] := by
  rw [List.take_succ_eq_append_getElem h, List.flatten_append, List.flatten_singleton]

theorem info_u8 : (Try.prog.info? 5).map (fun i => (i.zero, i.size, i.bytes)) = some (some (.int .u8 0), 1, 1) := by kernel_rfl

theorem BytesAt.lift {w w' : World} {B B' : Nat} {A : Option Addr} {l : List UInt8} (h : BytesAt w B A l) (hb : Below B w w') (hB : B ≤ B') : BytesAt w' B' A l :=
  (Reads.below h hb).more hB

theorem RowsAt.nil (w : World) (B : Nat) (A : Option Addr) : RowsAt w B A [] := fun h => absurd h (by simp)

theorem RowsAt.lift {w w' : World} {B B' : Nat} {A : Option Addr} {ls : List (List UInt8)} (h : RowsAt w B A ls) (hb : Below B w w') (hB : B ≤ B') : RowsAt w' B' A ls := fun hl => by
  obtain ⟨ad, rfl, hlt, hc⟩ := h hl
  refine ⟨ad, rfl, by omega, fun i hi => ?_⟩
  obtain ⟨Ai, ci, h1, h2, h3⟩ := hc i hi
  exact ⟨Ai, ci, (hb.cell (by rw [block_of_add]; exact hlt)).trans h1, h2, h3.lift hb hB⟩

theorem add_flat (b o j : Nat) : (Addr.add ⟨b, o, none⟩ j) = ⟨b, o + j, none⟩ := by
  unfold Addr.add
  split
  · rename_i h; subst h; rfl
  · rfl

theorem cell_new (w : World) (C : Array Value) (t : TypeId) (f : Nat × Nat) (j : Nat) : (w.alloc (.cells C t f)).cell? ⟨w.heap.size, j, none⟩ = C[j]? :=
  cell_of_row _ _ _ _ _ _ (heap_alloc_new w _)

theorem RowsAt.one {w : World} {A : Option Addr} {l : List UInt8} {n c : Nat} {t : TypeId} {f : Nat × Nat} {g : Nat} (hg : g = w.heap.size) (hn : n = l.length) (h : BytesAt w g A l) (hc : l.length ≤ c) :
    RowsAt (w.alloc (.cells #[.slice A n c] t f)) (g + 1) (some ⟨g, 0, none⟩) [l] := fun _ => by
  subst hn hg
  refine ⟨_, rfl, by simp, fun i hi => ?_⟩
  obtain rfl : i = 0 := by simpa using hi
  refine ⟨A, c, ?_, hc, (Reads.alloc h (Nat.le_refl _) _).more (by omega)⟩
  rw [add_flat, cell_new]
  rfl

theorem BytesAt.new (w : World) (l : List UInt8) (C : Array Value) (t : TypeId) (f : Nat × Nat) (hC : C = (byts l).toArray) : BytesAt (w.alloc (.cells C t f)) (w.heap.size + 1) (some ⟨w.heap.size, 0, none⟩) l := by
  refine ⟨by simp [byts], fun _ => ⟨_, rfl, by simp, fun j u hu => ?_⟩⟩
  subst hC
  rw [add_flat, cell_new, ← hu]
  simp

theorem own_slice {w : World} {base : Nat} {l : List UInt8} {v : Value} (h : w.ownsRow base 5 1 v l.length (byts l)) : ∃ A c, v = .slice A l.length c ∧ l.length ≤ c ∧ BytesAt w w.heap.size A l := by
  rcases h.2 with ⟨rfl, h0⟩ | ⟨g, cap, cur, rfl, hb, hg, hn, _⟩
  · exact ⟨none, 0, by rw [h0], by omega, Reads.of_own (n := l.length) (c := 0) (by rw [h0] at h ⊢; exact h)⟩
  · exact ⟨_, _, rfl, hn, Reads.of_own h⟩

theorem BytesAt.take {w : World} {B : Nat} {A : Option Addr} {l : List UInt8} (h : BytesAt w B A l) (k : Nat) : BytesAt w B A (l.take k) := by
  refine ⟨by simp [byts], fun hn => ?_⟩
  obtain ⟨ad, e, hb, hc⟩ := h.2 (by rw [List.length_take] at hn; omega)
  refine ⟨ad, e, hb, fun j u hu => hc j u ?_⟩
  rw [← hu]
  simp only [byts, List.map_take]
  rw [List.getElem?_take_of_lt]
  have := (List.getElem?_eq_some_iff.1 hu).1
  simp [byts] at this
  omega

theorem cut_front (P : Program) (t e : TypeId) (ht : P.underlying t = some (.slice e)) (he : P.elem t = e) (hs : ((P.info? e).map (·.size)) = some 1) (A : Option Addr) (n c k : Nat) (hk : k ≤ c) (w : World) :
    (Instr.slice t (.slice A n c) none (some (.int .i64 (k : Int))) none).run P w = .ok (.slice A k c) w := by
  subst he
  rw [run_slice_h w t A n c ht .i64 k (by omega) (by omega)]
  obtain ⟨i, hi, hz⟩ := Option.map_eq_some_iff.1 hs
  simp [sizeOf, typeInfo, hi, sliced, Addr.add_zero']

theorem cut_back (P : Program) (t e : TypeId) (ht : P.underlying t = some (.slice e)) (he : P.elem t = e) (hs : ((P.info? e).map (·.size)) = some 1) (A : Option Addr) (n c k : Nat) (hk : k ≤ n) (w : World) :
    (Instr.slice t (.slice A n c) (some (.int .i64 (k : Int))) none none).run P w = .ok (.slice (if c = k then A else A.map (·.add k)) (n - k) (c - k)) w := by
  subst he
  rw [run_slice_l w t A n c ht .i64 k (by omega) (by omega)]
  obtain ⟨i, hi, hz⟩ := Option.map_eq_some_iff.1 hs
  simp [sizeOf, typeInfo, hi, sliced, hz]

theorem BytesAt.cut {w : World} {B : Nat} {A : Option Addr} {l : List UInt8} (h : BytesAt w B A l) {k c : Nat} (hk : k ≤ l.length) (hc : l.length ≤ c) :
    BytesAt w B (if c = k then A else A.map (·.add k)) (l.drop k) := by
  have := Reads.cut (size := 1) h hk hc
  unfold BytesAt
  simpa [byts] using this

theorem cut_front8 (A : Option Addr) (n c k : Nat) (hk : k ≤ c) (w : World) :
    (Instr.slice 22 (.slice A n c) none (some (.int .i64 (k : Int))) none).run Try.prog w = .ok (.slice A k c) w :=
  cut_front _ _ 5 Try.underlying22 (by kernel_rfl) (by kernel_rfl) A n c k hk w

theorem cut_back8 (A : Option Addr) (n c k : Nat) (hk : k ≤ n) (w : World) :
    (Instr.slice 22 (.slice A n c) (some (.int .i64 (k : Int))) none none).run Try.prog w = .ok (.slice (if c = k then A else A.map (·.add k)) (n - k) (c - k)) w :=
  cut_back _ _ 5 Try.underlying22 (by kernel_rfl) (by kernel_rfl) A n c k hk w

theorem RowsAt.three {w : World} {A1 A2 A3 : Option Addr} {l1 l2 l3 : List UInt8} {n1 n2 n3 c1 c2 c3 : Nat} {t : TypeId} {f : Nat × Nat} {g : Nat} (hg : g = w.heap.size) (hn1 : n1 = l1.length) (hn2 : n2 = l2.length) (hn3 : n3 = l3.length)
    (h1 : BytesAt w g A1 l1) (h2 : BytesAt w g A2 l2) (h3 : BytesAt w g A3 l3) (hc1 : l1.length ≤ c1) (hc2 : l2.length ≤ c2) (hc3 : l3.length ≤ c3) :
    RowsAt (w.alloc (.cells #[.slice A1 n1 c1, .slice A2 n2 c2, .slice A3 n3 c3] t f)) (g + 1) (some ⟨g, 0, none⟩) [l1, l2, l3] := fun _ => by
  subst hn1 hn2 hn3 hg
  refine ⟨_, rfl, by simp, fun i hi => ?_⟩
  match i, hi with
  | 0, _ => exact ⟨A1, c1, by rw [add_flat, cell_new]; rfl, hc1, (Reads.alloc h1 (Nat.le_refl _) _).more (by omega)⟩
  | 1, _ => exact ⟨A2, c2, by rw [add_flat, cell_new]; rfl, hc2, (Reads.alloc h2 (Nat.le_refl _) _).more (by omega)⟩
  | 2, _ => exact ⟨A3, c3, by rw [add_flat, cell_new]; rfl, hc3, (Reads.alloc h3 (Nat.le_refl _) _).more (by omega)⟩
  | n + 3, h => exact absurd h (by simp)

theorem RowsAt.one_cell {W : World} {B g n c : Nat} {A : Option Addr} {l : List UInt8} (hg : g < B) (hn : n = l.length) (hc : l.length ≤ c) (hcell : W.cell? ⟨g, 0, none⟩ = some (.slice A n c)) (h : BytesAt W B A l) : RowsAt W B (some ⟨g, 0, none⟩) [l] := fun _ => by
  subst hn
  refine ⟨_, rfl, hg, fun i hi => ?_⟩
  obtain rfl : i = 0 := by simpa using hi
  exact ⟨A, c, hcell, hc, h⟩

theorem RowsAt.three_cells {W : World} {B g n1 n2 n3 c1 c2 c3 : Nat} {A1 A2 A3 : Option Addr} {l1 l2 l3 : List UInt8} (hg : g < B) (hn1 : n1 = l1.length) (hn2 : n2 = l2.length) (hn3 : n3 = l3.length) (hc1 : l1.length ≤ c1) (hc2 : l2.length ≤ c2) (hc3 : l3.length ≤ c3)
    (k1 : W.cell? ⟨g, 0, none⟩ = some (.slice A1 n1 c1)) (k2 : W.cell? ⟨g, 1, none⟩ = some (.slice A2 n2 c2)) (k3 : W.cell? ⟨g, 2, none⟩ = some (.slice A3 n3 c3))
    (h1 : BytesAt W B A1 l1) (h2 : BytesAt W B A2 l2) (h3 : BytesAt W B A3 l3) : RowsAt W B (some ⟨g, 0, none⟩) [l1, l2, l3] := fun _ => by
  subst hn1 hn2 hn3
  refine ⟨_, rfl, hg, fun i hi => ?_⟩
  match i, hi with
  | 0, _ => exact ⟨A1, c1, k1, hc1, h1⟩
  | 1, _ => exact ⟨A2, c2, by rw [add_flat]; exact k2, hc2, h2⟩
  | 2, _ => exact ⟨A3, c3, by rw [add_flat]; exact k3, hc3, h3⟩
  | n + 3, h => exact absurd h (by simp)

theorem BytesAt.nil (w : World) (B : Nat) (A : Option Addr) : BytesAt w B A [] := ⟨rfl, fun h => absurd h (by simp)⟩

theorem cut_mid8 (A : Option Addr) (n c i j : Nat) (hi : i ≤ j) (hj : j ≤ c) (w : World) :
    (Instr.slice 22 (.slice A n c) (some (.int .i64 (i : Int))) (some (.int .i64 (j : Int))) none).run Try.prog w = .ok (.slice (if c = i then A else A.map (·.add i)) (j - i) (c - i)) w := by
  have ht : Try.prog.underlying 22 = some (.slice (Try.prog.elem 22)) := by kernel_rfl
  rw [run_slice_lh w 22 A n c ht .i64 .i64 i j (by omega) (by omega) (by omega)]
  have hs : ((Try.prog.info? (Try.prog.elem 22)).map (·.size)) = some 1 := by kernel_rfl
  obtain ⟨q, hq, hz⟩ := Option.map_eq_some_iff.1 hs
  simp [sizeOf, typeInfo, hq, sliced, hz]

theorem BytesAt.mid {w : World} {B : Nat} {A : Option Addr} {l : List UInt8} (h : BytesAt w B A l) {i j c : Nat} (hi : i ≤ j) (hj : j ≤ l.length) (hc : l.length ≤ c) :
    BytesAt w B (if c = i then A else A.map (·.add i)) ((l.drop i).take (j - i)) := (BytesAt.cut h (by omega) hc).take _

def strOf (l : List UInt8) : ByteArray := ⟨l.toArray⟩

theorem strOf_inj {a b : List UInt8} (h : strOf a = strOf b) : a = b := by
  have := congrArg (fun x => x.data.toList) h
  simpa [strOf] using this

theorem conv_str {w : World} {B : Nat} {A : Option Addr} {l : List UInt8} (n c : Nat) (hn : n = l.length) (h : BytesAt w B A l) : (convert 22 9 (.slice A n c)).run Try.prog w = .ok (.string (strOf l)) w := by
  subst hn
  rw [run_convert_bytes_string w _ _ _ A l.length c Try.underlying22 Try.underlying5 Try.underlying9]
  cases A with
  | none =>
    have h0 : l.length = 0 := by
      rcases Nat.eq_zero_or_pos l.length with h0 | h0
      · exact h0
      · obtain ⟨ad, e, _⟩ := BytesAt.at_ h h0
        cases e
    have : l = [] := List.eq_nil_of_length_eq_zero h0
    subst this
    simp [Conv.bytesToString, strOf]
    rfl
  | some ad =>
    have hcell : ∀ j u, (byts l)[j]? = some u → w.cell? (ad.add j) = some u := fun j u hu => by
      have hj : j < l.length := by simpa [byts] using (List.getElem?_eq_some_iff.1 hu).1
      obtain ⟨ad', e, _, hc⟩ := BytesAt.at_ h hj
      cases e
      rw [hc, ← hu, byts_get hj]
    have hl : (loadCells ad l.length).run Try.prog w = .ok ((l.map fun b => (b.toNat : Int)).map (Value.int .u8)).toArray w := by
      have := run_loadCells_list (P := Try.prog) w ad (byts l) hcell
      rw [byts_length] at this
      rw [this]
      simp [byts, Function.comp_def]
    rw [run_bytesToString w ad l.length c _ hl, foldl_push_bytes]
    congr 2
    have e : (l.map fun b => (b.toNat : Int)).map (fun n => UInt8.ofNat n.toNat) = l := by
      rw [List.map_map]
      conv => rhs; rw [← List.map_id l]
      apply List.map_congr_left
      intro b _
      simp [UInt8.ofNat_toNat]
    rw [e]
    simp [strOf, ByteArray.empty, ByteArray.emptyWithCapacity]
    rfl

theorem u8_ofNat (n : Nat) : ((UInt8.ofNat n).toNat : Int) = (n : Int) % 256 := by
  rw [UInt8.toNat_ofNat']
  omega

set_option maxRecDepth 100000 in
set_option maxHeartbeats 400000 in
theorem clone_some (l : List UInt8) (ad : Addr) (n c : Nat) (B : Nat) (w : World) (hn : n = l.length) (hl : l.length ≤ 1099511627776) (hB : B ≤ w.heap.size) (hA : BytesAt w B (some ad) l) :
    Calls Try.prog 34 #[.slice (some ad) n c] w fun e w' => ∃ v, e = .returned v ∧ w'.ownsRow w.heap.size 5 1 v l.length (byts l) ∧ Below w.heap.size w w' := by
  subst hn
  have hq := fun (W : World) => Lib.run_eql_slice_nil (P := Try.prog) W
  go_enter Try.func34, Try.ntmps34
  obtain ⟨i0, hi0, hz0, hz1, hz2⟩ := info_parts info_u8
  go_wp2_with (at_builtin; refine wpList_append_any _ rfl (.tmp 5) (.tmp 6) _ rfl w.heap.size 5 i0 _ 1 1 Try.underlying22 hi0 hz0 hz1 hz2 rfl (by omega) (.slice (some ⟨w.heap.size, 0, none⟩) 0 0) 0 [] rfl (World.ownsRow_made w #[] 0 (Nat.le_refl _) (by simp only [maxLen]; omega) rfl) B (some ad) l.length c (byts l) rfl (Reads.alloc hA hB _) byts_one (by simp only [maxLen]; omega) (by omega) (by simp) ?_; intro v1 w1 hown1 hg1 hat1)
  rw [Nat.zero_add, List.nil_append] at hown1
  go_ret
  exact ⟨v1, rfl, hown1, (Below.alloc (Below.refl _ _) (Nat.le_refl _) _).grown hg1 (by simp) (fun k hk => by simp [Value.ownBlock] at hk; omega)⟩

theorem clone_nil (n c : Nat) (w : World) :
    Calls Try.prog 34 #[.slice none n c] w fun e w' => e = .returned (.slice none 0 0) ∧ w = w' := by
  have hq := fun (W : World) => Lib.run_eql_slice_nil (P := Try.prog) W
  go_enter Try.func34, Try.ntmps34
  go_wp2
  go_ret
  exact ⟨rfl, rfl⟩

theorem own_base {w : World} {b b' : Nat} {e : TypeId} {s n : Nat} {v : Value} {xs : List Value} (h : w.ownsRow b e s v n xs) (hb : b' ≤ b) : w.ownsRow b' e s v n xs := by
  refine ⟨h.1, ?_⟩
  rcases h.2 with h2 | ⟨g, cap, cur, hv, hg, r⟩
  · exact .inl h2
  · exact .inr ⟨g, cap, cur, hv, Nat.le_trans hb hg, r⟩

theorem zeros_cells (m : Nat) : madeCells #[.int .u8 0] m = (byts (List.replicate m 0)).toArray := by
  rw [← Array.toList_inj, toList_madeCells_one]
  simp [byts]

theorem make8 (m : Nat) (h : m ≤ 1099511627776) (W : World) : (Instr.makeSlice 22 (.int .i64 (m : Int)) (.int .i64 (m : Int))).run Try.prog W = .ok (.slice (some ⟨W.heap.size, 0, none⟩) m m) (W.alloc (.cells (madeCells #[.int .u8 0] m) 5)) := by
  obtain ⟨i0, hi0, hz0, hz1, hz2⟩ := info_parts info_u8
  have := run_make_rowN (P := Try.prog) 22 5 i0 _ Try.underlying22 hi0 hz0 .i64 .i64 m m (Nat.le_refl _) (by rw [hz2]; omega) (by omega) W
  rw [this, hz1, Nat.mul_one]
  rfl

theorem str_beq (a b : List UInt8) : ((strOf a).toList == (strOf b).toList) = decide (a = b) := by
  by_cases h : a = b
  · subst h
    simp
  · rw [decide_eq_false h, beq_eq_false_iff_ne]
    exact fun e => h (by simpa [ByteArray.toList_eq, strOf] using e)

theorem byts_sets (l : List UInt8) (j : Nat) (x : UInt8) : (byts l).toArray.setIfInBounds j (.int .u8 (x.toNat : Int)) = (byts (l.set j x)).toArray := by
  simp [byts, List.map_set]

theorem reads_one {w : World} {B g : Nat} {u : Value} (hg : g < B) (h : w.cell? ⟨g, 0, none⟩ = some u) : Reads w B 1 (some ⟨g, 0, none⟩) 1 [u] := by
  refine ⟨rfl, fun _ => ⟨_, rfl, hg, fun j v hv => ?_⟩⟩
  match j, hv with
  | 0, hv => cases hv; exact h
  | j + 1, hv => cases hv

theorem own_keep {w w' : World} {base : Nat} {e : TypeId} {s n : Nat} {v : Value} {xs : List Value} (h : w.ownsRow base e s v n xs) (hb : Below w.heap.size w w') : w'.ownsRow base e s v n xs :=
  h.kept (only_of_below hb none) (by
    rcases h.2 with ⟨rfl, _⟩ | ⟨g, cap, cur, rfl, _⟩
    · exact .inl rfl
    · exact .inr (by simp [Value.ownBlock]))

theorem BytesAt.drewN' {w : World} {B : Nat} {A : Option Addr} {l : List UInt8} (h : BytesAt w B A l) (q : Nat) : BytesAt (w.drewN q) B A l := h

set_option maxRecDepth 100000 in
set_option maxHeartbeats 400000 in
theorem same_yes (ls : List (List UInt8)) (A1 A2 : Option Addr) (n1 n2 c1 c2 B : Nat) (w : World) (hn1 : n1 = ls.length) (hn2 : n2 = ls.length) (hl : ls.length ≤ 1099511627776) (hA1 : RowsAt w B A1 ls) (hA2 : RowsAt w B A2 ls) :
    Calls Try.prog 13 #[.slice A1 n1 c1, .slice A2 n2 c2] w fun e w' => e = .returned (.bool true) ∧ Below w.heap.size w w' ∧ w'.heap = w.heap := by
  subst hn1 hn2
  have HA1 := hide hA1
  have HA2 := hide hA2
  clear hA1 hA2
  have hne : ((ls.length : Int) != (ls.length : Int)) = false := by simp
  go_enter Try.func13, Try.ntmps13
  go_wp2
  go_loopw [5] (fun i wr => ∃ k : Nat, k ≤ ls.length ∧ i = .int .i64 k ∧ Below w.heap.size w wr ∧ wr.heap = w.heap) (fun i _ => ls.length - (intOf i).toNat)
  case atStart => exact ⟨0, Nat.zero_le _, rfl, Below.refl _ _, rfl⟩
  case round =>
    obtain ⟨k, hk, rfl, hbe, hhe⟩ := hrel
    have HB := hide hbe
    have HE := hide hhe
    by_cases hlt : k < ls.length
    · obtain ⟨ad1, rfl, hb1, hcc1⟩ := (unhide HA1) (by omega)
      obtain ⟨P1, d1, hci1, hlen1, hbs1⟩ := hcc1 k hlt
      obtain ⟨ad2, rfl, hb2, hcc2⟩ := (unhide HA2) (by omega)
      obtain ⟨P2, d2, hci2, hlen2, hbs2⟩ := hcc2 k hlt
      have r1 : wr.cell? (ad1.add k) = some (.slice P1 ls[k].length d1) := (by simpa [World.cell?, hhe] using hci1)
      have r2 : wr.cell? (ad2.add k) = some (.slice P2 ls[k].length d2) := (by simpa [World.cell?, hhe] using hci2)
      have hk1 : ∀ p, wr.cell? p = w.cell? p := fun p => by simp [World.cell?, hhe]
      have s1 := fun q => conv_str _ d1 rfl (BytesAt.drewN' (Reads.keep hbs1 fun p _ => hk1 p) q)
      have s2 := fun q => conv_str _ d2 rfl (BytesAt.drewN' (Reads.keep hbs2 fun p _ => hk1 p) q)
      have sx : ((strOf ls[k]).toList == (strOf ls[k]).toList) = true := by simp
      clear hbe hhe hcc1 hcc2 hci1 hci2 hbs1 hbs2 hk1
      generalize ls[k] = x at *
      have i1 : (0 : Int) ≤ (k : Int) := by omega
      have i2 : (k : Int) < (ls.length : Int) := by omega
      go_wp2_with fail
      go_quiet (fail)
      go_wp2
      go_roundw
      case rel => exact ⟨k + 1, by omega, by go_num, below_drewN HB.out _, HE.out⟩
      case measure => simp [intOf]; omega
    · clear hbe hhe
      go_wp2
      go_ret
      exact ⟨rfl, HB.out, HE.out⟩

end Go.Proofs.Ytogjdfiimflbaaa
