/-
  A mark's words; the walk of journal's newest. Conditions: the first two sectors are marks, or zeros and a mark.
-/
import Derived.Test.YtogjdfiimflbaaaJrFormat
namespace Go.Proofs.Ytogjdfiimflbaaa
open Go Go.RowKit

theorem markL_eq (n f a : Nat) : markL n f a = beL n 8 ++ ([84] ++ (beL f 8 ++ (beL a 4 ++ (List.replicate 35 0 ++ beL n 8)))) := by
  have h1 : (beL n 8 ++ [84] ++ beL f 8 ++ beL a 4).length = 21 := by rw [List.length_append, List.length_append, List.length_append, beL_len, beL_len, beL_len]; rfl
  unfold markL padL
  rw [h1, List.take_append, h1, List.take_of_length_le (by omega), List.take_replicate]
  simp
theorem take_len_append (l r : List UInt8) (k : Nat) (h : l.length = k) : (l ++ r).take k = l := by
  rw [List.take_append_of_le_length (by omega), List.take_of_length_le (by omega)]
theorem drop_len_append (l r : List UInt8) (k : Nat) (h : l.length = k) : (l ++ r).drop k = r := by
  rw [List.drop_append_of_le_length (by omega), List.drop_of_length_le (by omega), List.nil_append]
theorem markL_take8 (n f a : Nat) : (markL n f a).take 8 = beL n 8 := by
  rw [markL_eq]
  exact take_len_append _ _ _ (beL_len _ _)
theorem markL_drop8 (n f a : Nat) : (markL n f a).drop 8 = [84] ++ (beL f 8 ++ (beL a 4 ++ (List.replicate 35 0 ++ beL n 8))) := by
  rw [markL_eq]
  exact drop_len_append _ _ _ (beL_len _ _)
theorem markL_8 (n f a : Nat) : (markL n f a)[8]? = some 84 := by
  have : ((markL n f a).drop 8)[0]? = some 84 := by rw [markL_drop8]; rfl
  simpa [List.getElem?_drop] using this
theorem markL_drop9 (n f a : Nat) : (markL n f a).drop 9 = beL f 8 ++ (beL a 4 ++ (List.replicate 35 0 ++ beL n 8)) := by
  rw [show 9 = 8 + 1 from rfl, ← List.drop_drop, markL_drop8]
  rfl
theorem markL_9 (n f a : Nat) : ((markL n f a).drop 9).take 8 = beL f 8 := by
  rw [markL_drop9]
  exact take_len_append _ _ _ (beL_len _ _)
theorem markL_drop17 (n f a : Nat) : (markL n f a).drop 17 = beL a 4 ++ (List.replicate 35 0 ++ beL n 8) := by
  rw [show 17 = 9 + 8 from rfl, ← List.drop_drop, markL_drop9]
  exact drop_len_append _ _ _ (beL_len _ _)
theorem markL_17 (n f a : Nat) : ((markL n f a).drop 17).take 4 = beL a 4 := by
  rw [markL_drop17]
  exact take_len_append _ _ _ (beL_len _ _)
theorem markL_56 (n f a : Nat) : (markL n f a).drop 56 = beL n 8 := by
  rw [show 56 = 17 + 39 from rfl, ← List.drop_drop, markL_drop17, ← List.append_assoc]
  exact drop_len_append _ _ _ (by rw [List.length_append, beL_len, List.length_replicate])

def markW (n f a : Nat) : Array Value := markI (n : Int) (f : Int) (a : Int)
theorem word_zeros (k : Nat) : wordI (List.replicate k 0) = 0 := by
  have : ∀ k, wordI (List.replicate k 0) = 0 := by
    intro k
    induction k with
    | zero => rfl
    | succ k ih => rw [List.replicate_succ', wordI_app, ih]; decide +kernel
  exact this k
/-- a sector that is a mark of a number of that parity (x), or zeros -/
def MkOf (b : List UInt8) (r z m f a : Nat) (x : Bool) : Prop :=
  (x = false ∧ b = zero64 ∧ m = 0 ∧ f = 0 ∧ a = 0) ∨ (x = true ∧ b = markL m f a ∧ m < 65536 ∧ f < 65536 ∧ m ≠ 0 ∧ m % 2 = r ∧ 2 ≤ a ∧ a ≤ z)
theorem MkOf.len {b : List UInt8} {r z m f a : Nat} {x : Bool} (h : MkOf b r z m f a x) : b.length = 64 := by
  rcases h with ⟨_, rfl, _⟩ | ⟨_, rfl, _⟩
  · rfl
  · exact markL_len _ _ _
theorem and_one (m : Nat) (h : m < 65536) : bits .and .i64 (m : Int) 1 = ((m % 2 : Nat) : Int) := by
  have e : ∀ n : Nat, n < 18446744073709551616 → (BitVec.ofInt 64 (n : Int)).toNat = n := fun n hn => by
    rw [BitVec.toNat_ofInt]
    omega
  show IntKind.i64.wrap ((BitVec.ofInt 64 (m : Int) &&& BitVec.ofInt 64 ((1 : Nat) : Int)).toNat : Int) = _
  rw [BitVec.toNat_and, e _ (by omega), e 1 (by omega), Nat.and_one_is_mod]
  exact wrap_nat _ (by omega)
section
variable {W : World} {g c B : Nat} {z : Nat}
theorem marked_mk {b : List UInt8} {r m f a : Nat} {x : Bool} (h : MkOf b r z m f a x) (hz : z ≤ 65536) (hB : B ≤ W.heap.size) (hA : Reads W B 1 (some ⟨g, 0, none⟩) 64 (byts b)) (hc : 64 ≤ c) :
    Calls Try.prog 41 #[.slice (some ⟨g, 0, none⟩) 64 c, .int .i64 (r : Int), .int .i64 (z : Int)] W fun e W' => e = .returned (.tuple #[.agg (markW m f a), .bool x]) ∧ Below W.heap.size W W' := by
  rcases h with ⟨rfl, rfl, rfl, rfl, rfl⟩ | ⟨rfl, rfl, hm, hf, h0, hr, h2, hn⟩
  · exact marked_any zero64 rfl g c B r z W hB hA hc 0 0 0 0 (word_zeros 8) (word_zeros 8) (word_zeros 4) (word_zeros 8) false (.inl ⟨rfl, rfl, rfl⟩)
  · exact marked_any (markL m f a) (markL_len m f a) g c B r z W hB hA hc (m : Int) (f : Int) (a : Int) (m : Int) (by rw [markL_take8]; exact word_beL (by omega) (by omega)) (by rw [markL_9]; exact word_beL (by omega) (by omega)) (by rw [markL_17]; exact word_beL (by omega) (by omega)) (by rw [markL_56]; exact word_beL (by omega) (by omega)) true
      (.inr ⟨rfl, rfl, by omega, by rw [and_one m hm, hr], markL_8 m f a, by omega, by omega⟩)
end
theorem rows_at {W : World} {A : Option Addr} {ls : List (List UInt8)} {i : Nat} {b : List UInt8} (h : RowsBlk W A ls) (hi : ls[i]? = some b) :
    ∃ ga gi ci, A = some ⟨ga, 0, none⟩ ∧ b.length ≤ ci ∧ gi < W.heap.size ∧ ∀ x, Below W.heap.size W x → x.cell? ⟨ga, i, none⟩ = some (.slice (some ⟨gi, 0, none⟩) b.length ci) ∧ BytesAt x x.heap.size (some ⟨gi, 0, none⟩) b := by
  obtain ⟨hl, e⟩ := List.getElem?_eq_some_iff.1 hi
  subst e
  obtain ⟨gr, cur, rfl, hb, hc⟩ := h (by omega)
  obtain ⟨gi, ci, cu, h1, h2, h3, h4⟩ := hc i hl
  exact ⟨gr, gi, ci, rfl, h2, h3.lt, fun x hx => ⟨((hb.below hx hb.lt).cell i).trans h1, bytes_blk (h3.below hx h3.lt) h4⟩⟩
theorem zero_mark3 (W : World) : (zeroValue 61).run Try.prog W = .ok (.agg #[.int .i64 0, .int .i64 0, .int .i64 0]) W := zero_mark W

def newR (m0 f0 a0 m1 f1 a1 : Nat) (x0 x1 : Bool) : Nat × Nat × Nat × Bool := bif x0 && (!x1 || decide (m1 < m0)) then (m0, f0, a0, true) else (m1, f1, a1, x1)
set_option maxRecDepth 100000 in
set_option maxHeartbeats 1000000 in
theorem newest_any {W : World} {A : Option Addr} {ls : List (List UInt8)} {n k m0 f0 a0 m1 f1 a1 : Nat} {b0 b1 : List UInt8} {x0 x1 : Bool} (hA : RowsBlk W A ls) (hn : n = ls.length) (hl : ls.length ≤ 65536) (h0 : ls[0]? = some b0) (h1 : ls[1]? = some b1) (k0 : MkOf b0 0 ls.length m0 f0 a0 x0) (k1 : MkOf b1 1 ls.length m1 f1 a1 x1) :
    Calls Try.prog 22 #[.slice A n k] W fun e W' => e = .returned (.tuple #[.agg (markW (newR m0 f0 a0 m1 f1 a1 x0 x1).1 (newR m0 f0 a0 m1 f1 a1 x0 x1).2.1 (newR m0 f0 a0 m1 f1 a1 x0 x1).2.2.1), .bool (newR m0 f0 a0 m1 f1 a1 x0 x1).2.2.2]) ∧ Below W.heap.size W W' := by
  subst hn
  have hz := fun W' => zero_mark3 W'
  obtain ⟨ga, g0, c0, rfl, hc0, hg0, hx0⟩ := rows_at hA h0
  obtain ⟨ga', g1, c1, e, hc1, hg1, hx1⟩ := rows_at hA h1
  injection e with e
  injection e with e
  subst e
  have l0 := k0.len
  have l1 := k1.len
  have hl2 : 1 < ls.length := (List.getElem?_eq_some_iff.1 h1).1
  rw [l0] at hc0 hx0
  rw [l1] at hc1 hx1
  have HX0 := hide hx0
  have HX1 := hide hx1
  have HK0 := hide k0
  have HK1 := hide k1
  clear hA hx0 hx1 k0 k1 h0 h1
  have HB1 : Hid (Below W.heap.size W (W.alloc (.cells #[.int .i64 0, .int .i64 0, .int .i64 0] 61))) := (Below.refl _ _).alloc (Nat.le_refl _) _
  have HBL1 : Hid (Blk (W.alloc (.cells #[.int .i64 0, .int .i64 0, .int .i64 0] 61)) W.heap.size 61 #[.int .i64 0, .int .i64 0, .int .i64 0]) := Blk.new _ _ _
  obtain ⟨w1, hw1⟩ : ∃ w1, W.alloc (.cells #[.int .i64 0, .int .i64 0, .int .i64 0] 61) = w1 := ⟨_, rfl⟩
  rw [hw1] at HB1 HBL1
  have r0 := (HX0.out w1 HB1.out).1
  have i0 : (0 : Int) < (ls.length : Int) := by omega
  have i1 : (1 : Int) < (ls.length : Int) := by omega
  generalize hzl : ls.length = z at *
  clear hzl
  have HM0 := hide (marked_mk (g := g0) (c := c0) HK0.out hl (Nat.le_refl _) (by have := (HX0.out w1 HB1.out).2; unfold BytesAt at this; rw [l0] at this; exact this) hc0)
  go_enter Try.func22, Try.ntmps22
  go_wp2_with fail
  refine (unhide HM0).mono ?_
  rintro e w2 ⟨rfl, hb2⟩
  have HB2 : Hid (Below W.heap.size W w2) := HB1.out.trans (hb2.mono HB1.out.size)
  have HBL2 := hide (HBL1.out.below hb2 HBL1.out.lt)
  have HC2 := hide (Blk.new w2 61 (markW m0 f0 a0))
  have HB3 : Hid (Below W.heap.size W (w2.alloc (.cells (markW m0 f0 a0) 61))) := HB2.out.alloc HB2.out.size _
  have HBL3 := hide (HBL2.out.alloc (.cells (markW m0 f0 a0) 61))
  have r1 := (HX1.out _ HB3.out).1
  have HM1 := hide (marked_mk (g := g1) (c := c1) HK1.out hl (Nat.le_refl _) (by have := (HX1.out _ HB3.out).2; unfold BytesAt at this; rw [l1] at this; exact this) hc1)
  clear hb2 HM0 HB1 HBL1 HBL2 HX0 HX1
  unfold markW markI at *
  go_wp2_with fail
  refine (unhide HM1).mono ?_
  rintro e w4 ⟨rfl, hb4⟩
  have HB4 : Hid (Below W.heap.size W w4) := HB3.out.trans (hb4.mono HB3.out.size)
  have HC4 := hide (HC2.out.below hb4 HC2.out.lt)
  have HZ4 := hide (HBL3.out.below hb4 HBL3.out.lt)
  have HB5 : Hid (Below W.heap.size W (w4.alloc (.cells #[.int .i64 (m1 : Int), .int .i64 (f1 : Int), .int .i64 (a1 : Int)] 61))) := HB4.out.alloc HB4.out.size _
  have HC5 := hide (HC4.out.alloc (.cells #[.int .i64 (m1 : Int), .int .i64 (f1 : Int), .int .i64 (a1 : Int)] 61))
  have HZ5 := hide (HZ4.out.alloc (.cells #[.int .i64 (m1 : Int), .int .i64 (f1 : Int), .int .i64 (a1 : Int)] 61))
  have HD5 := hide (Blk.new w4 61 #[.int .i64 (m1 : Int), .int .i64 (f1 : Int), .int .i64 (a1 : Int)])
  clear hb4 HM1 HB4 HC4 HZ4 HB2 HB3 HC2 HBL3 r0 r1 HK0 HK1 i0 i1
  have z0 := HZ5.out.frozen 0
  have z1 := HZ5.out.frozen 1
  have z2 := HZ5.out.frozen 2
  have y0 : (w4.alloc (.cells #[.int .i64 (m1 : Int), .int .i64 (f1 : Int), .int .i64 (a1 : Int)] 61)).cell? ⟨W.heap.size, 0, none⟩ = some (.int .i64 0) := HZ5.out.cell 0
  have y1 : (w4.alloc (.cells #[.int .i64 (m1 : Int), .int .i64 (f1 : Int), .int .i64 (a1 : Int)] 61)).cell? ⟨W.heap.size, 1, none⟩ = some (.int .i64 0) := HZ5.out.cell 1
  have y2 : (w4.alloc (.cells #[.int .i64 (m1 : Int), .int .i64 (f1 : Int), .int .i64 (a1 : Int)] 61)).cell? ⟨W.heap.size, 2, none⟩ = some (.int .i64 0) := HZ5.out.cell 2
  have c0 : (w4.alloc (.cells #[.int .i64 (m1 : Int), .int .i64 (f1 : Int), .int .i64 (a1 : Int)] 61)).cell? ⟨w2.heap.size, 0, none⟩ = some (.int .i64 (m0 : Int)) := HC5.out.cell 0
  have c1 : (w4.alloc (.cells #[.int .i64 (m1 : Int), .int .i64 (f1 : Int), .int .i64 (a1 : Int)] 61)).cell? ⟨w2.heap.size, 1, none⟩ = some (.int .i64 (f0 : Int)) := HC5.out.cell 1
  have c2 : (w4.alloc (.cells #[.int .i64 (m1 : Int), .int .i64 (f1 : Int), .int .i64 (a1 : Int)] 61)).cell? ⟨w2.heap.size, 2, none⟩ = some (.int .i64 (a0 : Int)) := HC5.out.cell 2
  have d0 : (w4.alloc (.cells #[.int .i64 (m1 : Int), .int .i64 (f1 : Int), .int .i64 (a1 : Int)] 61)).cell? ⟨w4.heap.size, 0, none⟩ = some (.int .i64 (m1 : Int)) := HD5.out.cell 0
  have d1 : (w4.alloc (.cells #[.int .i64 (m1 : Int), .int .i64 (f1 : Int), .int .i64 (a1 : Int)] 61)).cell? ⟨w4.heap.size, 1, none⟩ = some (.int .i64 (f1 : Int)) := HD5.out.cell 1
  have d2 : (w4.alloc (.cells #[.int .i64 (m1 : Int), .int .i64 (f1 : Int), .int .i64 (a1 : Int)] 61)).cell? ⟨w4.heap.size, 2, none⟩ = some (.int .i64 (a1 : Int)) := HD5.out.cell 2
  have hc0 : (markI (m0 : Int) (f0 : Int) (a0 : Int)) = #[.int .i64 (m0 : Int), .int .i64 (f0 : Int), .int .i64 (a0 : Int)] := rfl
  cases x0
  · -- the first does not count
    have HF : Hid (Blk ((((w4.alloc (.cells #[.int .i64 (m1 : Int), .int .i64 (f1 : Int), .int .i64 (a1 : Int)] 61)).setCell ⟨W.heap.size, 0, none⟩ (.int .i64 (m1 : Int))).setCell ⟨W.heap.size, 1, none⟩ (.int .i64 (f1 : Int))).setCell ⟨W.heap.size, 2, none⟩ (.int .i64 (a1 : Int))) W.heap.size 61 (markI m1 f1 a1)) := ((HZ5.out.set_ 0 _).set_ 1 _).set_ 2 _
    have HEF : Hid (Below W.heap.size W ((((w4.alloc (.cells #[.int .i64 (m1 : Int), .int .i64 (f1 : Int), .int .i64 (a1 : Int)] 61)).setCell ⟨W.heap.size, 0, none⟩ (.int .i64 (m1 : Int))).setCell ⟨W.heap.size, 1, none⟩ (.int .i64 (f1 : Int))).setCell ⟨W.heap.size, 2, none⟩ (.int .i64 (a1 : Int)))) := ((HB5.out.setCell (p := ⟨W.heap.size, 0, none⟩) (Nat.le_refl _) _).setCell (p := ⟨W.heap.size, 1, none⟩) (Nat.le_refl _) _).setCell (p := ⟨W.heap.size, 2, none⟩) (Nat.le_refl _) _
    go_wp2_with fail
    refine bodyPost_ret (results_cell_tmp Try.results22 (load_var_mark _ _ _ _ _ _ HF.out) rfl) rfl ⟨by (cases x1 <;> rfl), HEF.out⟩
  · cases x1
    · -- the first alone
      have HF : Hid (Blk ((((w4.alloc (.cells #[.int .i64 (m1 : Int), .int .i64 (f1 : Int), .int .i64 (a1 : Int)] 61)).setCell ⟨W.heap.size, 0, none⟩ (.int .i64 (m0 : Int))).setCell ⟨W.heap.size, 1, none⟩ (.int .i64 (f0 : Int))).setCell ⟨W.heap.size, 2, none⟩ (.int .i64 (a0 : Int))) W.heap.size 61 (markI m0 f0 a0)) := ((HZ5.out.set_ 0 _).set_ 1 _).set_ 2 _
      have HEF : Hid (Below W.heap.size W ((((w4.alloc (.cells #[.int .i64 (m1 : Int), .int .i64 (f1 : Int), .int .i64 (a1 : Int)] 61)).setCell ⟨W.heap.size, 0, none⟩ (.int .i64 (m0 : Int))).setCell ⟨W.heap.size, 1, none⟩ (.int .i64 (f0 : Int))).setCell ⟨W.heap.size, 2, none⟩ (.int .i64 (a0 : Int)))) := ((HB5.out.setCell (p := ⟨W.heap.size, 0, none⟩) (Nat.le_refl _) _).setCell (p := ⟨W.heap.size, 1, none⟩) (Nat.le_refl _) _).setCell (p := ⟨W.heap.size, 2, none⟩) (Nat.le_refl _) _
      go_wp2_with fail
      refine bodyPost_ret (results_cell_tmp Try.results22 (load_var_mark _ _ _ _ _ _ HF.out) rfl) rfl ⟨by rfl, HEF.out⟩
    · by_cases hlt : m1 < m0
      · have t : decide ((m0 : Int) > (m1 : Int)) = true := decide_eq_true (by omega)
        have HF : Hid (Blk ((((w4.alloc (.cells #[.int .i64 (m1 : Int), .int .i64 (f1 : Int), .int .i64 (a1 : Int)] 61)).setCell ⟨W.heap.size, 0, none⟩ (.int .i64 (m0 : Int))).setCell ⟨W.heap.size, 1, none⟩ (.int .i64 (f0 : Int))).setCell ⟨W.heap.size, 2, none⟩ (.int .i64 (a0 : Int))) W.heap.size 61 (markI m0 f0 a0)) := ((HZ5.out.set_ 0 _).set_ 1 _).set_ 2 _
        have HEF : Hid (Below W.heap.size W ((((w4.alloc (.cells #[.int .i64 (m1 : Int), .int .i64 (f1 : Int), .int .i64 (a1 : Int)] 61)).setCell ⟨W.heap.size, 0, none⟩ (.int .i64 (m0 : Int))).setCell ⟨W.heap.size, 1, none⟩ (.int .i64 (f0 : Int))).setCell ⟨W.heap.size, 2, none⟩ (.int .i64 (a0 : Int)))) := ((HB5.out.setCell (p := ⟨W.heap.size, 0, none⟩) (Nat.le_refl _) _).setCell (p := ⟨W.heap.size, 1, none⟩) (Nat.le_refl _) _).setCell (p := ⟨W.heap.size, 2, none⟩) (Nat.le_refl _) _
        go_wp2_with fail
        refine bodyPost_ret (results_cell_tmp Try.results22 (load_var_mark _ _ _ _ _ _ HF.out) rfl) rfl ⟨by (unfold newR; rw [decide_eq_true hlt]; rfl), HEF.out⟩
      · have t : decide ((m0 : Int) > (m1 : Int)) = false := decide_eq_false (by omega)
        have HF : Hid (Blk ((((w4.alloc (.cells #[.int .i64 (m1 : Int), .int .i64 (f1 : Int), .int .i64 (a1 : Int)] 61)).setCell ⟨W.heap.size, 0, none⟩ (.int .i64 (m1 : Int))).setCell ⟨W.heap.size, 1, none⟩ (.int .i64 (f1 : Int))).setCell ⟨W.heap.size, 2, none⟩ (.int .i64 (a1 : Int))) W.heap.size 61 (markI m1 f1 a1)) := ((HZ5.out.set_ 0 _).set_ 1 _).set_ 2 _
        have HEF : Hid (Below W.heap.size W ((((w4.alloc (.cells #[.int .i64 (m1 : Int), .int .i64 (f1 : Int), .int .i64 (a1 : Int)] 61)).setCell ⟨W.heap.size, 0, none⟩ (.int .i64 (m1 : Int))).setCell ⟨W.heap.size, 1, none⟩ (.int .i64 (f1 : Int))).setCell ⟨W.heap.size, 2, none⟩ (.int .i64 (a1 : Int)))) := ((HB5.out.setCell (p := ⟨W.heap.size, 0, none⟩) (Nat.le_refl _) _).setCell (p := ⟨W.heap.size, 1, none⟩) (Nat.le_refl _) _).setCell (p := ⟨W.heap.size, 2, none⟩) (Nat.le_refl _) _
        go_wp2_with fail
        refine bodyPost_ret (results_cell_tmp Try.results22 (load_var_mark _ _ _ _ _ _ HF.out) rfl) rfl ⟨by (unfold newR; rw [decide_eq_false hlt]; rfl), HEF.out⟩
end Go.Proofs.Ytogjdfiimflbaaa
