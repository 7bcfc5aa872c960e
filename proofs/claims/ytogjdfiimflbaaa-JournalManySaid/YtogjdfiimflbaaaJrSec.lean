/-
  The walks of journal's padded and of a mark's sector. Conditions: the octets lie in own rows.
-/
import Derived.Test.YtogjdfiimflbaaaJrPad
import Derived.Test.YtogjdfiimflbaaaTailV
namespace Go.Proofs.Ytogjdfiimflbaaa
open Go Go.RowKit

theorem own_form {W : World} {v : Value} {n : Nat} {xs : List Value} {base size : Nat} {e : TypeId} (h : W.ownsRow base e size v n xs) : ∃ A c, v = .slice A n c := by
  rcases h.2 with ⟨e1, h0⟩ | ⟨g', cap, cur, e1, _⟩
  · exact ⟨none, 0, by rw [e1, h0]⟩
  · exact ⟨_, cap, e1⟩
def padL (b : List UInt8) : List UInt8 := b ++ List.replicate (64 - b.length) 0
/-- what an own row has become -/
def Grew (base n : Nat) (b : List UInt8) (v : Value) (W : World) (e : Ending) (W' : World) : Prop :=
  ∃ v', e = .returned v' ∧ W'.ownsRow base 5 1 v' n (byts b) ∧ (v'.ownBlock = v.ownBlock ∨ ∃ q, v'.ownBlock = some q ∧ W.heap.size ≤ q) ∧ Fr (fun q => v.ownBlock = some q) W W'
set_option maxRecDepth 100000 in
set_option maxHeartbeats 1000000 in
theorem padded_any (b : List UInt8) (v : Value) (n base : Nat) (W : World) (hn : n = b.length) (hb : b.length < 64) (hbase : base ≤ W.heap.size) (hown : W.ownsRow base 5 1 v n (byts b)) :
    Calls Try.prog 15 #[v] W (Grew base 64 (padL b) v W) := by
  subst hn
  obtain ⟨i0, hi0, hz0, hz1, hz2⟩ := info_parts info_cbyt
  obtain ⟨v', w', hr, ho, hg, ha⟩ := run_zeros_own (P := Try.prog) W base 22 3 22 5 i0 Try.underlying22 Try.underlying3 hi0 hz0 hz1 hz2 v b.length (byts b) hown (64 - b.length) (by omega) (by omega) hbase
  have HO : Hid (w'.ownsRow base 5 1 v' 64 (byts (padL b))) := by
    rw [show b.length + (64 - b.length) = 64 by omega] at ho
    unfold padL
    rw [show byts (b ++ List.replicate (64 - b.length) 0) = byts b ++ byts (List.replicate (64 - b.length) 0) by simp [byts]]
    exact ho
  have HG : Hid (Fr (fun q => v.ownBlock = some q) W w') := Fr.of_grown hg
  have HA : Hid (v'.ownBlock = v.ownBlock ∨ ∃ q, v'.ownBlock = some q ∧ W.heap.size ≤ q) := by
    rcases ha with h | h
    · exact .inl h
    · exact .inr ⟨_, h, Nat.le_refl _⟩
  obtain ⟨A, c, e⟩ := own_form hown
  subst e
  have hk : ((64 - b.length : Nat) : Int) = 64 - (b.length : Int) := by omega
  rw [hk] at hr
  have HR := hide hr
  unfold Grew
  clear ho hg ha hown hr hk
  go_enter Try.func15, Try.ntmps15
  go_wp2_with (at_builtin; refine Lib.wpList_append_run _ rfl (.tmp 3) (.tmp 6) 22 3 rfl (.slice A b.length c) (.int .i64 (64 - (b.length : Int))) rfl rfl v' w' HR.out ?_)
  go_ret
  exact ⟨_, rfl, HO.out, HA.out, HG.out⟩

theorem own_take {W : World} {A : Option Addr} {n c m base : Nat} {e : TypeId} {xs : List Value} (h : W.ownsRow base e 1 (.slice A n c) n xs) (hm : m ≤ n) (h0 : 0 < n) : W.ownsRow base e 1 (.slice A m c) m (xs.take m) := by
  have hl := h.1
  refine ⟨by rw [List.length_take]; omega, ?_⟩
  rcases h.2 with ⟨_, h1⟩ | ⟨g, cap, cur, e1, e2, e3, e4, e5, e6, e7⟩
  · omega
  · injection e1 with k1 k2 k3
    subst k1 k3
    exact .inr ⟨g, c, cur, rfl, e2, e3, by omega, e5, e6, by rw [← e7, List.take_take]; congr 1; omega⟩
/-- a mark's octets -/
def markL (n f a : Nat) : List UInt8 := (padL (beL n 8 ++ [84] ++ beL f 8 ++ beL a 4)).take 56 ++ beL n 8
def markC (n f a : Nat) : Array Value := #[.int .i64 (n : Int), .int .i64 (f : Int), .int .i64 (a : Int)]
set_option maxRecDepth 100000 in
set_option maxHeartbeats 1000000 in
theorem sector_any (n f a : Nat) (W : World) (hn : n < 72057594037927936) (hf : f < 72057594037927936) (ha : a < 72057594037927936) :
    Calls Try.prog 19 #[.agg (markC n f a)] W fun e W' => ∃ v', e = .returned v' ∧ W'.ownsRow W.heap.size 5 1 v' 64 (byts (markL n f a)) ∧ Below W.heap.size W W' := by
  have HB1 : Hid (Blk (W.alloc (.cells (markC n f a) 61)) W.heap.size 61 (markC n f a)) := Blk.new _ _ _
  have HW1 : Hid (Below W.heap.size W (W.alloc (.cells (markC n f a) 61)) ∧ (W.alloc (.cells (markC n f a) 61)).heap.size = W.heap.size + 1) := ⟨(Below.refl _ _).alloc (Nat.le_refl _) _, by simp⟩
  obtain ⟨w1, hA1⟩ : ∃ w1, W.alloc (.cells (markC n f a) 61) = w1 := ⟨_, rfl⟩
  rw [hA1] at HB1 HW1
  have b0 : w1.cell? ⟨W.heap.size, 0, none⟩ = some (.int .i64 (n : Int)) := HB1.out.cell 0
  have HN1 := hide (number_any [] (.slice none 0 0) n 8 (W.heap.size + 1) w1 (by omega) hn (by simp) (by have := HW1.out.2; omega) (World.ownsRow_nil _ _ _ _))
  obtain ⟨i0, hi0, hz0, hz1, hz2⟩ := info_parts info_cbyt
  go_enter Try.func19, Try.ntmps19
  go_wp2_with fail
  refine (unhide HN1).mono ?_
  rintro e u1 ⟨v1, rfl, ho1, ha1, hf1⟩
  obtain ⟨q1, hq1⟩ : ∃ q1, q1 = W.heap.size := ⟨_, rfl⟩
  have hz1' : w1.heap.size = q1 + 1 := by rw [hq1]; exact HW1.out.2
  rw [← hq1] at ho1 HB1 ⊢
  have HQ1 := hide hq1
  clear hq1
  have HSX : Hid (∀ x, Below (q1 + 1) w1 x → x.cell? ⟨q1, 0, none⟩ = some (.int .i64 (n : Int)) ∧ x.cell? ⟨q1, 1, none⟩ = some (.int .i64 (f : Int)) ∧ x.cell? ⟨q1, 2, none⟩ = some (.int .i64 (a : Int))) := fun x hx => by
    have hb := HB1.out.below hx (by omega)
    exact ⟨hb.cell 0, hb.cell 1, hb.cell 2⟩
  have HBU1 : Hid (Below (q1 + 1) w1 u1) := hf1.below (by omega) (fun q e => by simp [Value.ownBlock] at e)
  have hzu1 : q1 + 1 ≤ u1.heap.size := by have := HBU1.out.size; omega
  simp only [List.length_nil, Nat.zero_add, List.nil_append] at ho1
  have HO1 := hide ho1
  have HO2 : Hid ((u1.alloc (.cells #[.int .u8 84] 5)).ownsRow (q1 + 1) 5 1 v1 8 (byts (beL n 8))) := own_keep ho1 ((Below.refl _ _).alloc (Nat.le_refl _) _)
  have HR2 : Hid (Reads (u1.alloc (.cells #[.int .u8 84] 5)) (u1.heap.size + 1) 1 (some ⟨u1.heap.size, 0, none⟩) 1 [.int .u8 84]) := ⟨rfl, fun _ => ⟨_, rfl, by simp, fun j u hu => by
    rw [add_flat, cell_new, ← hu]
    simp⟩⟩
  clear ho1 ha1 hf1 hA1 b0 HN1
  go_wp2_with (at_builtin; refine wpList_append_any _ rfl (.tmp 6) (.tmp 7) _ rfl (q1 + 1) 5 i0 _ 1 1 Try.underlying22 hi0 hz0 hz1 hz2 rfl (by omega) v1 8 (byts (beL n 8)) rfl HO2.out (u1.heap.size + 1) (some ⟨u1.heap.size, 0, none⟩) 1 1 [.int .u8 84] rfl HR2.out (by simp [Value.oneCell']) (by simp only [maxLen]; omega) (by omega) (by simp; omega) ?_; intro v2 u2 hown2 hg2 hat2)
  have HO3 : Hid (u2.ownsRow (q1 + 1) 5 1 v2 9 (byts (beL n 8 ++ [84]))) := by
    rw [show byts (beL n 8 ++ [84]) = byts (beL n 8) ++ [.int .u8 84] by simp [byts]]
    exact hown2
  have HB2 : Hid (Below (q1 + 1) w1 u2) := (HBU1.out.alloc hzu1 _ |>.mono (by omega)).grown hg2 (by simp; omega) (fun q hq => (HO2.out.lt q hq).1)
  have hz22 : q1 + 1 ≤ u2.heap.size := by have := HB2.out.size; omega
  clear hown2 hg2 hat2 HO2 HR2 HO1
  have hbn9 : (beL n 8 ++ [84]).length = 9 := by rw [List.length_append, beL_len]; rfl
  refine region_U (fun x => x.cell? ⟨q1, 0, none⟩ = some (.int .i64 (n : Int)) ∧ x.cell? ⟨q1, 1, none⟩ = some (.int .i64 (f : Int)) ∧ x.cell? ⟨q1, 2, none⟩ = some (.int .i64 (a : Int))) 6 (by kernel_rfl) ?_
  intro Y hY
  have HBY : Hid (Below u2.heap.size u2 Y) := by rw [hY]; exact (Below.refl _ _).drew
  have HSY := hide (HSX.out Y (HB2.out.trans (HBY.out.mono hz22)))
  clear hY
  refine takeV 8 0 (v2) rfl (by kernel_rfl) (fun _ _ _ h => h) (by rfl) (fun x hS => by
    obtain ⟨s1, s2, s3⟩ := hS
    go_simp) HSY.out ?_
  simp only [Act.put, List.getElem_toArray, List.getElem_cons_succ, List.getElem_cons_zero, List.setIfInBounds_toArray, List.set_cons_zero, List.set_cons_succ]
  refine takeV 8 1 (.pointer (some ⟨q1, 1, none⟩)) rfl (by kernel_rfl) (fun _ _ _ h => h) (by rfl) (fun x hS => by
    obtain ⟨s1, s2, s3⟩ := hS
    go_simp) HSY.out ?_
  simp only [Act.put, List.getElem_toArray, List.getElem_cons_succ, List.getElem_cons_zero, List.setIfInBounds_toArray, List.set_cons_zero, List.set_cons_succ]
  refine takeV 8 2 (.int .i64 (f : Int)) rfl (by kernel_rfl) (fun _ _ _ h => h) (by rfl) (fun x hS => by
    obtain ⟨s1, s2, s3⟩ := hS
    go_simp) HSY.out ?_
  simp only [Act.put, List.getElem_toArray, List.getElem_cons_succ, List.getElem_cons_zero, List.setIfInBounds_toArray, List.set_cons_zero, List.set_cons_succ]
  refine takeV 8 4 (.pointer (some ⟨q1, 2, none⟩)) rfl (by kernel_rfl) (fun _ _ _ h => h) (by rfl) (fun x hS => by
    obtain ⟨s1, s2, s3⟩ := hS
    go_simp) HSY.out ?_
  simp only [Act.put, List.getElem_toArray, List.getElem_cons_succ, List.getElem_cons_zero, List.setIfInBounds_toArray, List.set_cons_zero, List.set_cons_succ]
  refine takeV 8 5 (.int .i64 (a : Int)) rfl (by kernel_rfl) (fun _ _ _ h => h) (by rfl) (fun x hS => by
    obtain ⟨s1, s2, s3⟩ := hS
    go_simp) HSY.out ?_
  simp only [Act.put, List.getElem_toArray, List.getElem_cons_succ, List.getElem_cons_zero, List.setIfInBounds_toArray, List.set_cons_zero, List.set_cons_succ]
  have HOY := hide (own_keep HO3.out HBY.out)
  have hszy := HBY.out.size
  refine oneU 3 rfl (by kernel_rfl) (by rfl) ?_
  go_wp2_with fail
  refine (number_any (beL n 8 ++ [84]) v2 f 8 (q1 + 1) Y (by omega) hf (by rw [hbn9]; omega) (by omega) (by rw [hbn9]; exact HOY.out)).mono ?_
  rintro e u3 ⟨v3, rfl, ho3, ha3, hf3⟩
  have HB3 : Hid (Below (q1 + 1) w1 u3) := (HB2.out.trans (HBY.out.mono hz22)).trans (hf3.below (by omega) (fun q e => (HOY.out.lt q e).1))
  have HSY3 := hide (HSX.out u3 HB3.out)
  have hz33 : q1 + 1 ≤ u3.heap.size := by have := hf3.size; omega
  have hbn17 : (beL n 8 ++ [84] ++ beL f 8).length = 17 := by rw [List.length_append, hbn9, beL_len]
  have HO17 : Hid (u3.ownsRow (q1 + 1) 5 1 v3 (beL n 8 ++ [84] ++ beL f 8).length (byts (beL n 8 ++ [84] ++ beL f 8))) := by
    rw [hbn17]
    rw [hbn9] at ho3
    exact ho3
  clear ho3 ha3 hf3 HOY HSY HBY
  refine ⟨(by first | exact fun _ => HSY3.out | exact HSY3.out), ?_⟩
  try simp only [Act.put, List.getElem_toArray, List.getElem_cons_succ, List.getElem_cons_zero, List.setIfInBounds_toArray, List.set_cons_zero, List.set_cons_succ]
  refine oneU 6 rfl (by kernel_rfl) (by rfl) ?_
  go_wp2_with fail
  refine (number_any (beL n 8 ++ [84] ++ beL f 8) v3 a 4 (q1 + 1) u3 (by omega) ha (by rw [hbn17]; omega) hz33 HO17.out).mono ?_
  rintro e u4 ⟨v4, rfl, ho4, ha4, hf4⟩
  have HB4 : Hid (Below (q1 + 1) w1 u4) := HB3.out.trans (hf4.below hz33 (fun q e => (HO17.out.lt q e).1))
  have hz4 : q1 + 1 ≤ u4.heap.size := by have := hf4.size; omega
  have hbn21 : (beL n 8 ++ [84] ++ beL f 8 ++ beL a 4).length = 21 := by rw [List.length_append, hbn17, beL_len]
  have HO21 : Hid (u4.ownsRow (q1 + 1) 5 1 v4 21 (byts (beL n 8 ++ [84] ++ beL f 8 ++ beL a 4))) := by
    rw [hbn17] at ho4
    exact ho4
  clear ho4 ha4 hf4 HO17 HO3
  obtain ⟨A4, c4, e4⟩ := own_form HO21.out
  subst e4
  have HSY4 := hide (HSX.out u4 HB4.out)
  try refine ⟨fun h => absurd rfl h, ?_⟩
  try simp only [Act.put, List.getElem_toArray, List.getElem_cons_succ, List.getElem_cons_zero, List.setIfInBounds_toArray, List.set_cons_zero, List.set_cons_succ]
  refine oneU 7 rfl (by kernel_rfl) (by rfl) (runU (v := .slice A4 21 c4) (x := u4) (by go_simp) ⟨fun _ => HSY4.out, ?_⟩)
  try simp only [Act.put, List.getElem_toArray, List.getElem_cons_succ, List.getElem_cons_zero, List.setIfInBounds_toArray, List.set_cons_zero, List.set_cons_succ]
  refine doneU (by kernel_rfl) ?_ _
  clear HSY4 HSY3 hbn17 hbn9 HB3 HB2 HBU1
  go_wp2_with fail
  refine region_U (fun x => x.cell? ⟨q1, 0, none⟩ = some (.int .i64 (n : Int)) ∧ x.cell? ⟨q1, 1, none⟩ = some (.int .i64 (f : Int)) ∧ x.cell? ⟨q1, 2, none⟩ = some (.int .i64 (a : Int))) 5 (by kernel_rfl) ?_
  intro Y hY
  have HBY : Hid (Below u4.heap.size u4 Y) := by rw [hY]; exact (Below.refl _ _).drew
  have HSY := hide (HSX.out Y (HB4.out.trans (HBY.out.mono hz4)))
  clear hY
  refine takeV 8 0 (.slice A4 21 c4) rfl (by kernel_rfl) (fun _ _ _ h => h) (by rfl) (fun x hS => by
    obtain ⟨s1, s2, s3⟩ := hS
    go_simp) HSY.out ?_
  simp only [Act.put, List.getElem_toArray, List.getElem_cons_succ, List.getElem_cons_zero, List.setIfInBounds_toArray, List.set_cons_zero, List.set_cons_succ]
  refine takeV 8 3 (.pointer (some ⟨q1, 0, none⟩)) rfl (by kernel_rfl) (fun _ _ _ h => h) (by rfl) (fun x hS => by
    obtain ⟨s1, s2, s3⟩ := hS
    go_simp) HSY.out ?_
  simp only [Act.put, List.getElem_toArray, List.getElem_cons_succ, List.getElem_cons_zero, List.setIfInBounds_toArray, List.set_cons_zero, List.set_cons_succ]
  refine takeV 8 4 (.int .i64 (n : Int)) rfl (by kernel_rfl) (fun _ _ _ h => h) (by rfl) (fun x hS => by
    obtain ⟨s1, s2, s3⟩ := hS
    go_simp) HSY.out ?_
  simp only [Act.put, List.getElem_toArray, List.getElem_cons_succ, List.getElem_cons_zero, List.setIfInBounds_toArray, List.set_cons_zero, List.set_cons_succ]
  have HOY := hide (own_keep HO21.out HBY.out)
  have hszy := HBY.out.size
  refine oneU 1 rfl (by kernel_rfl) (by rfl) ?_
  go_wp2_with fail
  refine (padded_any (beL n 8 ++ [84] ++ beL f 8 ++ beL a 4) (.slice A4 21 c4) 21 (q1 + 1) Y hbn21.symm (by omega) (by omega) HOY.out).mono ?_
  rintro e u5 ⟨v5, rfl, ho5, ha5, hf5⟩
  have HB5 : Hid (Below (q1 + 1) w1 u5) := (HB4.out.trans (HBY.out.mono hz4)).trans (hf5.below (by omega) (fun q e => (HOY.out.lt q e).1))
  have HSY5 := hide (HSX.out u5 HB5.out)
  have hz5 : q1 + 1 ≤ u5.heap.size := by have := hf5.size; omega
  obtain ⟨g5, c5, rfl, _, _⟩ := ho5.form (by omega)
  have hcap : 64 ≤ c5 := by
    rcases ho5.2 with ⟨k, _⟩ | ⟨g', cap', cur, k, _, _, h, _⟩
    · cases k
    · injection k with k1 k2 k3
      omega
  have HO56 := hide (own_take ho5 (m := 56) (by omega) (by omega))
  have hc1 : (56 : Int) ≤ (c5 : Int) := by omega
  have hl56 : ((padL (beL n 8 ++ [84] ++ beL f 8 ++ beL a 4)).take 56).length = 56 := by
    rw [List.length_take]
    unfold padL
    rw [List.length_append, List.length_replicate, hbn21]
    omega
  have HOT : Hid (u5.ownsRow (q1 + 1) 5 1 (.slice (some ⟨g5, 0, none⟩) 56 c5) ((padL (beL n 8 ++ [84] ++ beL f 8 ++ beL a 4)).take 56).length (byts ((padL (beL n 8 ++ [84] ++ beL f 8 ++ beL a 4)).take 56))) := by
    rw [hl56]
    have := HO56.out
    have e : byts ((padL (beL n 8 ++ [84] ++ beL f 8 ++ beL a 4)).take 56) = (byts (padL (beL n 8 ++ [84] ++ beL f 8 ++ beL a 4))).take 56 := by simp [byts, List.map_take]
    rw [e]
    exact this
  clear ho5 ha5 hf5 HOY HSY HBY HO56
  refine ⟨(by first | exact fun _ => HSY5.out | exact HSY5.out), ?_⟩
  try simp only [Act.put, List.getElem_toArray, List.getElem_cons_succ, List.getElem_cons_zero, List.setIfInBounds_toArray, List.set_cons_zero, List.set_cons_succ]
  refine oneU 2 rfl (by kernel_rfl) (by rfl) (runU (v := .slice (some ⟨g5, 0, none⟩) 56 c5) (x := u5) (by go_simp) ⟨fun _ => HSY5.out, ?_⟩)
  try simp only [Act.put, List.getElem_toArray, List.getElem_cons_succ, List.getElem_cons_zero, List.setIfInBounds_toArray, List.set_cons_zero, List.set_cons_succ]
  refine oneU 5 rfl (by kernel_rfl) (by rfl) ?_
  go_wp2_with fail
  refine (number_any ((padL (beL n 8 ++ [84] ++ beL f 8 ++ beL a 4)).take 56) (.slice (some ⟨g5, 0, none⟩) 56 c5) n 8 (q1 + 1) u5 (by omega) hn (by rw [hl56]; omega) hz5 HOT.out).mono ?_
  rintro e u6 ⟨v6, rfl, ho6, ha6, hf6⟩
  have HB6 : Hid (Below (q1 + 1) w1 u6) := HB5.out.trans (hf6.below hz5 (fun q e => (HOT.out.lt q e).1))
  have HSY6 := hide (HSX.out u6 HB6.out)
  have HO64 : Hid (u6.ownsRow (q1 + 1) 5 1 v6 64 (byts (markL n f a))) := by
    rw [hl56] at ho6
    exact ho6
  clear ho6 ha6 hf6 HOT
  try refine ⟨fun h => absurd rfl h, ?_⟩
  try simp only [Act.put, List.getElem_toArray, List.getElem_cons_succ, List.getElem_cons_zero, List.setIfInBounds_toArray, List.set_cons_zero, List.set_cons_succ]
  refine oneU 6 rfl (by kernel_rfl) (by rfl) (runU (v := v6) (x := u6) (by go_simp) ⟨fun _ => HSY6.out, ?_⟩)
  try simp only [Act.put, List.getElem_toArray, List.getElem_cons_succ, List.getElem_cons_zero, List.setIfInBounds_toArray, List.set_cons_zero, List.set_cons_succ]
  refine doneU (by kernel_rfl) ?_ _
  go_wp2
  go_ret
  refine ⟨_, rfl, own_base HO64.out (by have := HQ1.out; omega), ?_⟩
  exact HW1.out.1.trans (HB6.out.mono (by have := HQ1.out; omega))
end Go.Proofs.Ytogjdfiimflbaaa
