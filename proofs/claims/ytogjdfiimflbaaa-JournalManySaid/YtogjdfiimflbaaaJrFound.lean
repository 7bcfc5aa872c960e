/-
  The walk of journal's found. Conditions: a record of that number lies there, or none.
-/
import Derived.Test.YtogjdfiimflbaaaJrHead
namespace Go.Proofs.Ytogjdfiimflbaaa
open Go Go.RowKit

/-- a sector of octets is read -/
theorem bytes_cell {W : World} {g : Nat} {b : List UInt8} {i : Nat} {x : UInt8} (h : BytesAt W W.heap.size (some ⟨g, 0, none⟩) b) (hx : b[i]? = some x) : W.cell? ⟨g, i, none⟩ = some (.int .u8 (x.toNat : Int)) := by
  obtain ⟨hi, e⟩ := List.getElem?_eq_some_iff.1 hx
  obtain ⟨ad, e1, _, h1⟩ := h.at_ hi
  injection e1 with e1
  subst e1
  rw [add_flat, Nat.zero_add, e] at h1
  exact h1
theorem bytes_part {W : World} {g B : Nat} {b : List UInt8} (h : BytesAt W B (some ⟨g, 0, none⟩) b) (i k : Nat) (hik : i + k ≤ b.length) : BytesAt W B (some ⟨g, i, none⟩) ((b.drop i).take k) := by
  refine ⟨by rw [Nat.mul_one, byts_length], fun hk => ?_⟩
  have hl : ((b.drop i).take k).length = k := by rw [List.length_take, List.length_drop]; omega
  rw [hl] at hk
  obtain ⟨ad, e, hbl, hcell⟩ := h.2 (by omega)
  injection e with e
  subst e
  refine ⟨_, rfl, hbl, fun j u hu => ?_⟩
  have hj : j < k := by
    have := (List.getElem?_eq_some_iff.1 hu).1
    rw [byts_length, hl] at this
    exact this
  have hu2 : (byts b)[i + j]? = some u := by
    rw [← hu]
    simp [byts, List.getElem?_take_of_lt hj, List.getElem?_drop]
  have := hcell (i + j) u hu2
  rw [add_flat, Nat.zero_add] at this
  rw [add_flat]
  exact this
theorem word_part {W : World} {g c : Nat} {b : List UInt8} (h : BytesAt W W.heap.size (some ⟨g, 0, none⟩) b) (i k x : Nat) (hik : i + k ≤ b.length) (hk : k ≤ 8) (hx : x < 72057594037927936) (hxk : x < 256 ^ k) (he : (b.drop i).take k = beL x k) :
    Calls Try.prog 42 #[.slice (some ⟨g, i, none⟩) k c] W fun e w' => e = .returned (.int .i64 (x : Int)) ∧ W = w' := by
  have hp := bytes_part h i k hik
  rw [he] at hp
  refine (word_any (beL x k) (some ⟨g, i, none⟩) k c W.heap.size W (beL_len _ _).symm (by rw [beL_len]; exact hk) (Nat.le_refl _) (by have := hp; unfold BytesAt at this; rw [beL_len] at this; exact this)).mono ?_
  rintro e w' ⟨rfl, rfl⟩
  rw [word_beL hxk hx]
  exact ⟨rfl, rfl⟩

section
variable {W : World} {A : Option Addr} {ls : List (List UInt8)}
set_option maxRecDepth 100000 in
set_option maxHeartbeats 1000000 in
theorem found_no (hA : RowsBlk W A ls) {g z a num n k : Nat} (hn : n = ls.length) (hl : ls.length ≤ 65536) (ha : 2 ≤ a) (ha2 : a ≤ 65536) (hnum : num < 72057594037927936) (h : NoRec ls a num) :
    Calls Try.prog 23 #[.agg (placeC g z), .slice A n k, .int .i64 (a : Int), .int .i64 (num : Int)] W fun e W' => e = .returned (.tuple #[.slice none 0 0, .bool false]) ∧ Below W.heap.size W W' := by
  subst hn
  have hb : Below W.heap.size W (W.alloc (.cells (placeC g z) 56)) := (Below.refl _ _).alloc (Nat.le_refl _) _
  have HB := hide hb
  have t1 : decide ((a : Int) < 2) = false := decide_eq_false (by omega)
  rcases h with h | ⟨b, hb0, hb64, h0, hh0, h⟩
  · have t2 : decide ((a : Int) ≥ (ls.length : Int)) = true := decide_eq_true (by omega)
    have t3 : decide (a ≥ ls.length) = true := decide_eq_true (by omega)
    clear hA hb
    generalize ls.length = l at *
    go_enter Try.func23, Try.ntmps23
    go_wp2
    go_ret2
    exact ⟨rfl, HB.out⟩
  · have hal : a < ls.length := (List.getElem?_eq_some_iff.1 hb0).1
    have t2 : decide ((a : Int) ≥ (ls.length : Int)) = false := decide_eq_false (by omega)
    have t3 : decide (a ≥ ls.length) = false := decide_eq_false (by omega)
    have i1 : (0 : Int) ≤ (a : Int) := by omega
    have i2 : (a : Int) < (ls.length : Int) := by omega
    obtain ⟨ga, gi, ci, rfl, hci, hgi, hx⟩ := rows_at hA hb0
    obtain ⟨r0, hby⟩ := hx _ hb
    rw [hb64] at r0 hci
    obtain ⟨h9, hh9⟩ : ∃ h9, b[9]? = some h9 := ⟨_, List.getElem?_eq_getElem (by omega)⟩
    have r1 := bytes_cell hby hh0
    have r2 := bytes_cell hby hh9
    have HBY := hide hby
    clear hA hb hby hx
    generalize ls.length = l at *
    obtain ⟨w1, hw1⟩ : ∃ w1, W.alloc (.cells (placeC g z) 56) = w1 := ⟨_, rfl⟩
    rw [hw1] at HB HBY r0 r1 r2
    by_cases e72 : h0 = 72
    · subst e72
      rcases h with h | ⟨x, hx1, hx2, hx3⟩
      · exact absurd rfl h
      have t5 : ((x : Int) != (num : Int)) = true := by simp; omega
      have HW := hide (word_part (c := ci - 1) HBY.out 1 8 x (by omega) (by omega) hx1 (by omega) hx2)
      have hc9 : (9 : Int) ≤ (ci : Int) := by omega
      have hn1 : ¬ (ci = 1) := by omega
      clear hx2
      go_enter Try.func23, Try.ntmps23
      go_wp2_with (go_at_call 42; refine (unhide HW).mono ?_; rintro e w' ⟨rfl, rfl⟩)
      go_ret2
      exact ⟨rfl, HB.out⟩
    · have t4 : ((h0.toNat : Int) != 72) = true := by
        have : h0.toNat ≠ 72 := fun e => e72 (UInt8.toNat_inj.1 e)
        simp
        omega
      clear h
      go_enter Try.func23, Try.ntmps23
      go_wp2_with fail
      go_ret2
      exact ⟨rfl, HB.out⟩

/-- cells of puts -/
def putsC : List PutL → List Value → List Value
  | p :: ps, u :: us => .int .i64 (p.1 : Int) :: u :: putsC ps us
  | _, _ => []
theorem putsC_len : ∀ (ps : List PutL) (us : List Value), us.length = ps.length → (putsC ps us).length = ps.length * 2
  | [], _, _ => rfl
  | p :: ps, [], h => by cases h
  | p :: ps, u :: us, h => by
    have := putsC_len ps us (by simpa using h)
    simp only [putsC, List.length_cons, this]
    omega
theorem putsC_snoc : ∀ (ps : List PutL) (us : List Value) (p : PutL) (u : Value), us.length = ps.length → putsC (ps ++ [p]) (us ++ [u]) = putsC ps us ++ [.int .i64 (p.1 : Int), u]
  | [], [], _, _, _ => rfl
  | [], _ :: _, _, _, h => by cases h
  | _ :: _, [], _, _, h => by cases h
  | q :: ps, v :: us, p, u, h => by
    have := putsC_snoc ps us p u (by simpa using h)
    simp only [List.cons_append, putsC, this]
theorem putsC_get : ∀ (ps : List PutL) (us : List Value) (i : Nat) (p : PutL), us.length = ps.length → ps[i]? = some p → (putsC ps us)[2 * i]? = some (.int .i64 (p.1 : Int)) ∧ (putsC ps us)[2 * i + 1]? = us[i]?
  | [], _, _, _, _, h => by simp at h
  | _ :: _, [], _, _, h, _ => by cases h
  | q :: ps, v :: us, 0, p, _, h => by
    injection h with h
    subst h
    exact ⟨rfl, rfl⟩
  | q :: ps, v :: us, i + 1, p, hl, h => by
    have := putsC_get ps us i p (by simpa using hl) (by simpa using h)
    rw [show 2 * (i + 1) = 2 * i + 1 + 1 by omega]
    exact this
theorem puts_of_own {base : Nat} {v : Value} {ps : List PutL} {us : List Value} {D : Nat → Prop} (h : W.ownsRow base 37 2 v ps.length (putsC ps us)) (hs : SecVs W D us (ps.map (·.2))) : ∃ A c, v = .slice A ps.length c ∧ PutsAt W A ps := by
  have hlen : us.length = ps.length := by rw [hs.1, List.length_map]
  rcases h.2 with ⟨h1, h0⟩ | ⟨g, cap, cur, rfl, h2, h3, h4, h5, h6, h7⟩
  · exact ⟨none, 0, by rw [h1, h0], fun hp => by omega⟩
  · refine ⟨_, _, rfl, fun _ => ⟨g, cur, rfl, h3, fun i p hp => ?_⟩⟩
    have hi := (List.getElem?_eq_some_iff.1 hp).1
    obtain ⟨c0, c1⟩ := putsC_get ps us i p hlen hp
    obtain ⟨u, hu⟩ : ∃ u, us[i]? = some u := ⟨_, List.getElem?_eq_getElem (by omega)⟩
    refine ⟨u, ?_, ?_, (hs.2 i u p.2 hu (by rw [List.getElem?_map, hp]; rfl)).weak (fun _ _ _ => trivial)⟩
    · rw [← Array.getElem?_toList, ← c0, ← h7, List.getElem?_take_of_lt (by omega)]
    · rw [← Array.getElem?_toList, ← hu, ← c1, ← h7, List.getElem?_take_of_lt (by omega)]

theorem PutsAt.list {ps : List PutL} (h : PutsAt W A ps) (h0 : 0 < ps.length) : ∃ gr, ∃ xs : List (Nat × Value), A = some ⟨gr, 0, none⟩ ∧ xs.length = ps.length ∧ ∀ (k p : Nat) (u : Value), xs[k]? = some (p, u) → (∃ b, ps[k]? = some (p, b) ∧ SecV W (fun _ => True) u b) ∧ ∀ w, Below W.heap.size W w → w.cell? ⟨gr, k * 2, none⟩ = some (.int .i64 (p : Int)) ∧ w.cell? ⟨gr, k * 2 + 1, none⟩ = some u := by
  obtain ⟨gr, cur, rfl, hb, hc⟩ := h h0
  refine ⟨gr, (List.range ps.length).map fun i => ((ps.getD i (0, [])).1, cur.getD (2 * i + 1) (.bool false)), rfl, by simp, fun k p u hk => ?_⟩
  rw [List.getElem?_map] at hk
  obtain ⟨i, hi, e⟩ := Option.map_eq_some_iff.1 hk
  have hkl : k < ps.length := by
    have := (List.getElem?_eq_some_iff.1 hi).1
    simpa using this
  rw [List.getElem?_range hkl] at hi
  injection hi with hi
  subst hi
  obtain ⟨u', c0, c1, hs⟩ := hc k ps[k] (List.getElem?_eq_getElem hkl)
  have e1 : ps.getD k (0, []) = ps[k] := by rw [List.getD_eq_getElem?_getD, List.getElem?_eq_getElem hkl]; rfl
  have e2 : cur.getD (2 * k + 1) (.bool false) = u' := by rw [Array.getD_eq_getD_getElem?, c1]; rfl
  rw [e1, e2] at e
  injection e with e3 e4
  subst e3
  subst e4
  refine ⟨⟨ps[k].2, by rw [List.getElem?_eq_getElem hkl], hs⟩, fun w hw => ?_⟩
  have hb' := hb.below hw hb.lt
  exact ⟨by rw [hb'.cell, Nat.mul_comm]; exact c0, by rw [hb'.cell, Nat.mul_comm]; exact c1⟩
theorem SecV.one {D : Nat → Prop} {u : Value} {b : List UInt8} (h : SecV W D u b) : u.oneCell' = true := by
  obtain ⟨_, _, _, rfl, _⟩ := h
  rfl
theorem built_put (a : Int) (u : Value) (hu : u.oneCell' = true) : Try.prog.built 37 [(0, .int .i64 a), (1, u)] = some #[.int .i64 a, u] := by
  cases u <;> first | (cases hu; done) | kernel_rfl
theorem build_put (W : World) (a : Int) (g n c : Nat) : (Instr.build 37 #[(0, .int .i64 a), (1, .slice (some ⟨g, 0, none⟩) n c)]).run Try.prog W = .ok (.agg #[.int .i64 a, .slice (some ⟨g, 0, none⟩) n c]) W := run_build W _ _ _ (by kernel_rfl)
def FndRel (W : World) (ps : List PutL) (k : Nat) (vo : Value) (wr : World) : Prop := ∃ us, us.length = k ∧ wr.ownsRow W.heap.size 37 2 vo k (putsC (ps.take k) us) ∧ SecVs wr (fun _ => True) us ((ps.take k).map (·.2)) ∧ Below W.heap.size W wr
set_option maxRecDepth 100000 in
set_option maxHeartbeats 4000000 in
theorem found_yes (hA : RowsBlk W A ls) {B g c m : Nat} {N : List (List UInt8)} (hD : DevC W B g c N m) {z a num n k : Nat} {ps : List PutL} (hn : n = ls.length) (hl : ls.length ≤ 65536) (ha : 2 ≤ a) (hnum : num < 72057594037927936) (h1 : 1 ≤ ps.length) (h10 : ps.length ≤ 10) (hok : ∀ p ∈ ps, PutOk p) (hout : ∀ p ∈ ps, z ≤ p.1 ∧ p.1 < N.length) (h : RecAt ls a num ps) :
    Calls Try.prog 23 #[.agg (placeC g z), .slice A n k, .int .i64 (a : Int), .int .i64 (num : Int)] W fun e W' => ∃ A' c', e = .returned (.tuple #[.slice A' ps.length c', .bool true]) ∧ PutsAt W' A' ps ∧ Below W.heap.size W W' := by
  subst hn
  obtain ⟨hh, hbo, hf⟩ := h
  have hb : Below W.heap.size W (W.alloc (.cells (placeC g z) 56)) := (Below.refl _ _).alloc (Nat.le_refl _) _
  have HB := hide hb
  have HPB : Hid (Blk (W.alloc (.cells (placeC g z) 56)) W.heap.size 56 (placeC g z)) := Blk.new _ _ _
  have hfl : a + 1 + ps.length < ls.length := (List.getElem?_eq_some_iff.1 hf).1
  have t1 : decide ((a : Int) < 2) = false := decide_eq_false (by omega)
  have t2 : decide ((a : Int) ≥ (ls.length : Int)) = false := decide_eq_false (by omega)
  have t3 : decide (a ≥ ls.length) = false := decide_eq_false (by omega)
  have t4 : decide ((ps.length : Int) < 1) = false := decide_eq_false (by omega)
  have t5 : decide ((ps.length : Int) > 10) = false := decide_eq_false (by omega)
  have t6 : decide ((a : Int) + (ps.length : Int) + 1 ≥ (ls.length : Int)) = false := decide_eq_false (by omega)
  have i1 : (0 : Int) ≤ (a : Int) := by omega
  have i2 : (a : Int) < (ls.length : Int) := by omega
  have i3 : (0 : Int) ≤ (a : Int) + (ps.length : Int) + 1 := by omega
  have i4 : (a : Int) + (ps.length : Int) + 1 < (ls.length : Int) := by omega
  have hAH := hide hA
  have HDV := hide hD
  have HOK := hide hok
  have HOUT := hide hout
  have HBO := hide hbo
  obtain ⟨ga, gi, ci, rfl, hci, hgi, hx⟩ := rows_at hA hh
  obtain ⟨ga', gf, cf, e, hcf, hgf, hxf⟩ := rows_at hA hf
  injection e with e
  injection e with e
  subst e
  have h64 := headL_len num h10
  have f64 := footL_len num
  rw [h64] at hx hci
  rw [f64] at hxf hcf
  have HX := hide hx
  have HXF := hide hxf
  have hk8 : (UInt8.ofNat ps.length).toNat = ps.length := by
    rw [UInt8.toNat_ofNat']
    omega
  obtain ⟨r0, hby⟩ := hx _ hb
  have r1 := bytes_cell hby (headL_0 num ps)
  have r2 := bytes_cell hby (headL_9 num ps)
  rw [hk8] at r2
  have HBY := hide hby
  clear hA hb hby hx hxf hD hok hout hbo hh hf
  obtain ⟨w1, hw1⟩ : ∃ w1, W.alloc (.cells (placeC g z) 56) = w1 := ⟨_, rfl⟩
  rw [hw1] at HB HBY HPB r0 r1 r2
  have HW := hide (word_part (c := ci - 1) HBY.out 1 8 num (by omega) (by omega) hnum (by omega) (headL_1 num ps))
  have hc9 : (9 : Int) ≤ (ci : Int) := by omega
  have hn1 : ¬ (ci = 1) := by omega
  have HA3 : Hid (Below w1.heap.size w1 (w1.alloc (.cells #[.int .u8 67] 5))) := (Below.refl _ _).alloc (Nat.le_refl _) _
  have HO3 : Hid ((w1.alloc (.cells #[.int .u8 67] 5)).ownsRow w1.heap.size 5 1 (.slice (some ⟨w1.heap.size, 0, none⟩) 1 1) 1 (byts [67])) := World.ownsRow_lit w1 #[.int .u8 67] 1 (Nat.le_refl _) (by decide) rfl
  have HN3 := hide (number_any [67] _ num 8 w1.heap.size _ (by omega) hnum (by simp) HA3.out.size HO3.out)
  go_enter Try.func23, Try.ntmps23
  go_wp2_with (go_at_call 42; refine (unhide HW).mono ?_; rintro e w' ⟨rfl, rfl⟩)
  refine (unhide HN3).mono ?_
  rintro e x3 ⟨v3, rfl, ho3, _, hf3⟩
  have HB23 : Hid (Below w1.heap.size w1 x3) := HA3.out.trans (hf3.below HA3.out.size (fun q e => (HO3.out.lt q e).1))
  have HP4 := hide (padded_any ([67] ++ beL num 8) v3 9 w1.heap.size x3 (by rw [List.length_append, beL_len]; rfl) (by rw [List.length_append, beL_len]; decide) HB23.out.size ho3)
  have HO3' := hide ho3
  clear ho3 hf3 HN3 HO3 HA3
  go_wp2_with fail
  refine (unhide HP4).mono ?_
  rintro e x4 ⟨vq, rfl, hoq, _, hfq⟩
  obtain ⟨gq, cq, evq, hcq, _⟩ := hoq.form (by omega)
  subst evq
  have HB24 : Hid (Below w1.heap.size w1 x4) := HB23.out.trans (hfq.below HB23.out.size (fun q e => (HO3'.out.lt q e).1))
  have HE4 : Hid (Below W.heap.size W x4) := HB.out.trans (HB24.out.mono HB.out.size)
  have HSQ : Hid (SecV x4 (fun _ => True) (.slice (some ⟨gq, 0, none⟩) 64 cq) (footL num)) := by
    have h8 : x4.ownsRow w1.heap.size 5 1 (.slice (some ⟨gq, 0, none⟩) 64 cq) (footL num).length (byts (footL num)) := by rw [footL_len num]; exact hoq
    exact (SecV.of_own h8 (by rw [footL_len num]; omega)).weak (fun _ _ _ => trivial)
  have HPB4 := hide (HPB.out.below HB24.out HPB.out.lt)
  clear hoq hfq HP4 HO3' HW r0 r1 r2 HB23 HBY
  have rF : x4.cell? ⟨ga, a + ps.length + 1, none⟩ = some (.slice (some ⟨gf, 0, none⟩) 64 cf) := by
    rw [show a + ps.length + 1 = a + 1 + ps.length by omega]
    exact (HXF.out x4 HE4.out).1
  have hcf9 : (9 : Int) ≤ (cf : Int) := by omega
  have hcq9 : (9 : Int) ≤ (cq : Int) := by
    obtain ⟨_, _, _, e, hle, _⟩ := HSQ.out
    injection e with _ _ e
    rw [f64] at hle
    omega
  have HCF : Hid (∀ X, Below x4.heap.size x4 X → X.cell? ⟨ga, a + ps.length + 1, none⟩ = some (.slice (some ⟨gf, 0, none⟩) 64 cf)) := fun X hX => by
    rw [show a + ps.length + 1 = a + 1 + ps.length by omega]
    exact (HXF.out X (HE4.out.trans (hX.mono HE4.out.size))).1
  have HC1 : Hid (∀ X, Below x4.heap.size x4 X → (convert 22 9 (.slice (some ⟨gf, 0, none⟩) 9 cf)).run Try.prog X = .ok (.string (strOf ([67] ++ beL num 8))) X) := fun X hX => by
    have := bytes_part (HXF.out X (HE4.out.trans (hX.mono HE4.out.size))).2 0 9 (by omega)
    rw [List.drop_zero, footL_9] at this
    exact conv_str 9 cf (by rw [List.length_append, beL_len]; rfl) this
  have HC2 : Hid (∀ X, Below x4.heap.size x4 X → (convert 22 9 (.slice (some ⟨gq, 0, none⟩) 9 cq)).run Try.prog X = .ok (.string (strOf ([67] ++ beL num 8))) X) := fun X hX => by
    obtain ⟨A, c, e, _, h⟩ := (HSQ.out.below hX).reads
    injection e with e _ _
    subst e
    have := bytes_part h 0 9 (by omega)
    rw [List.drop_zero, footL_9] at this
    exact conv_str 9 cq (by rw [List.length_append, beL_len]; rfl) this
  clear rF
  go_wp2_with fail
  refine wp_region_assert (listV [isV (.slice (some ⟨ga, 0, none⟩) ls.length k), isV (.int .i64 (a : Int)), isV (.int .i64 (ps.length : Int)), isV (.int .i64 ((a : Int) + (ps.length : Int))), isV (.int .i64 ((a : Int) + (ps.length : Int) + 1)), isV (.pointer (some ⟨ga, a + ps.length + 1, none⟩)), isV (.slice (some ⟨gf, 0, none⟩) 64 cf), isV (.slice (some ⟨gf, 0, none⟩) 9 cf), isV (.string (strOf ([67] ++ beL num 8))), isV (.slice (some ⟨gq, 0, none⟩) 64 cq), isV (.slice (some ⟨gq, 0, none⟩) 9 cq), isV (.string (strOf ([67] ++ beL num 8))), isV (.bool false)]) (by kernel_rfl) (by kernel_rfl) (listV_stable ?_) ?_ ?_
  · exact ⟨isV_stable _, isV_stable _, isV_stable _, isV_stable _, isV_stable _, isV_stable _, isV_stable _, isV_stable _, isV_stable _, isV_stable _, isV_stable _, isV_stable _, isV_stable _, trivial⟩
  refine ⟨fun vs wk hbk hd => ?_, fun vs wk hbk hd => ?_, fun vs wk hbk hd => ?_, fun vs wk hbk hd => ?_, fun vs wk hbk hd => ?_, fun vs wk hbk hd => ?_, fun vs wk hbk hd => ?_, fun vs wk hbk hd => ?_, fun vs wk hbk hd => ?_, fun vs wk hbk hd => ?_, fun vs wk hbk hd => ?_, fun vs wk hbk hd => ?_, fun vs wk hbk hd => ?_, trivial⟩
  -- 0: Op.move t1
  · clear hd
    go_wp2
    exact ⟨rfl, rfl, rfl, Below.refl _ _⟩
  -- 1: Op.move t2
  · simp only [Act.put, List.setIfInBounds_toArray, List.set_cons_zero, List.set_cons_succ]
    clear hd
    go_wp2
    exact ⟨rfl, rfl, rfl, Below.refl _ _⟩
  -- 2: Op.move t11
  · simp only [Act.put, List.setIfInBounds_toArray, List.set_cons_zero, List.set_cons_succ, Nat.reduceAdd]
    clear hd
    go_wp2
    exact ⟨rfl, rfl, rfl, Below.refl _ _⟩
  -- 3: Op.binOp BinOp.add 3 t66 t67 3
  · simp only [Act.put, List.setIfInBounds_toArray, List.set_cons_zero, List.set_cons_succ, Nat.reduceAdd]
    have e1 : vs 1 = .int .i64 (a : Int) := hd 1 (by kernel_rfl)
    have e2 : vs 2 = .int .i64 (ps.length : Int) := hd 2 (by kernel_rfl)
    clear hd
    go_wp2
    first | exact ⟨rfl, rfl, rfl, Below.refl _ _⟩ | exact ⟨rfl, rfl, e2, Below.refl _ _⟩ | exact ⟨rfl, rfl, e1, Below.refl _ _⟩
  -- 4: Op.binOp BinOp.add 3 t68 (const (1:i64)) 3
  · simp only [Act.put, List.setIfInBounds_toArray, List.set_cons_zero, List.set_cons_succ, Nat.reduceAdd]
    have e3 : vs 3 = .int .i64 ((a : Int) + (ps.length : Int)) := hd 3 (by kernel_rfl)
    clear hd
    go_wp2
    first | exact ⟨rfl, rfl, rfl, Below.refl _ _⟩ | exact ⟨rfl, rfl, e3, Below.refl _ _⟩
  -- 5: Op.indexAddr 43 t65 t69
  · simp only [Act.put, List.setIfInBounds_toArray, List.set_cons_zero, List.set_cons_succ, Nat.reduceAdd]
    have e0 : vs 0 = .slice (some ⟨ga, 0, none⟩) ls.length k := hd 0 (by kernel_rfl)
    have e4 : vs 4 = .int .i64 ((a : Int) + (ps.length : Int) + 1) := hd 4 (by kernel_rfl)
    clear hd
    go_wp2
    first | exact ⟨rfl, rfl, rfl, Below.refl _ _⟩ | exact ⟨rfl, rfl, e4, Below.refl _ _⟩ | exact ⟨rfl, rfl, e0, Below.refl _ _⟩
  -- 6: Op.load 22 t70
  · simp only [Act.put, List.setIfInBounds_toArray, List.set_cons_zero, List.set_cons_succ, Nat.reduceAdd]
    have e5 : vs 5 = .pointer (some ⟨ga, a + ps.length + 1, none⟩) := hd 5 (by kernel_rfl)
    have r1 := HCF.out wk (undrew hbk)
    clear hd
    go_wp2
    first | exact ⟨rfl, rfl, rfl, Below.refl _ _⟩ | exact ⟨rfl, rfl, e5, Below.refl _ _⟩
  -- 7: Op.slice 22 t71 none (some (const (9:i64))) none
  · simp only [Act.put, List.setIfInBounds_toArray, List.set_cons_zero, List.set_cons_succ, Nat.reduceAdd]
    have e6 : vs 6 = .slice (some ⟨gf, 0, none⟩) 64 cf := hd 6 (by kernel_rfl)
    clear hd
    go_wp2
    first | exact ⟨rfl, rfl, rfl, Below.refl _ _⟩ | exact ⟨rfl, rfl, e6, Below.refl _ _⟩
  -- 8: Op.convert 22 9 t72
  · simp only [Act.put, List.setIfInBounds_toArray, List.set_cons_zero, List.set_cons_succ, Nat.reduceAdd]
    have e7 : vs 7 = .slice (some ⟨gf, 0, none⟩) 9 cf := hd 7 (by kernel_rfl)
    have s1 := HC1.out wk (undrew hbk)
    clear hd
    go_wp2
    first | exact ⟨rfl, rfl, rfl, Below.refl _ _⟩ | exact ⟨rfl, rfl, e7, Below.refl _ _⟩
  -- 9: Op.move t12
  · simp only [Act.put, List.setIfInBounds_toArray, List.set_cons_zero, List.set_cons_succ, Nat.reduceAdd]
    clear hd
    go_wp2
    exact ⟨rfl, rfl, rfl, Below.refl _ _⟩
  -- 10: Op.slice 22 t74 none (some (const (9:i64))) none
  · simp only [Act.put, List.setIfInBounds_toArray, List.set_cons_zero, List.set_cons_succ, Nat.reduceAdd]
    have e9 : vs 9 = .slice (some ⟨gq, 0, none⟩) 64 cq := hd 9 (by kernel_rfl)
    clear hd
    go_wp2
    first | exact ⟨rfl, rfl, rfl, Below.refl _ _⟩ | exact ⟨rfl, rfl, e9, Below.refl _ _⟩
  -- 11: Op.convert 22 9 t75
  · simp only [Act.put, List.setIfInBounds_toArray, List.set_cons_zero, List.set_cons_succ, Nat.reduceAdd]
    have e10 : vs 10 = .slice (some ⟨gq, 0, none⟩) 9 cq := hd 10 (by kernel_rfl)
    have s1 := HC2.out wk (undrew hbk)
    clear hd
    go_wp2
    first | exact ⟨rfl, rfl, rfl, Below.refl _ _⟩ | exact ⟨rfl, rfl, e10, Below.refl _ _⟩
  -- 12: Op.binOp BinOp.neq 9 t73 t76 9
  · simp only [Act.put, List.setIfInBounds_toArray, List.set_cons_zero, List.set_cons_succ, Nat.reduceAdd]
    have e8 : vs 8 = .string (strOf ([67] ++ beL num 8)) := hd 8 (by kernel_rfl)
    have e11 : vs 11 = .string (strOf ([67] ++ beL num 8)) := hd 11 (by kernel_rfl)
    have s1 : ((strOf ([67] ++ beL num 8)).toList == (strOf ([67] ++ beL num 8)).toList) = true := by simp
    clear hd
    go_wp2
    first | exact ⟨rfl, rfl, rfl, Below.refl _ _⟩ | exact ⟨rfl, rfl, e11, Below.refl _ _⟩ | exact ⟨rfl, rfl, e8, Below.refl _ _⟩
  intro vs wk hbk hd
  simp only [putAll, Act.put, List.setIfInBounds_toArray, List.set_cons_zero, List.set_cons_succ, Nat.reduceAdd]
  have e12 : vs 12 = .bool false := hd 12 (by decide)
  clear hd
  simp only [e12]
  clear e12
  have HBK : Hid (Below x4.heap.size x4 wk) := undrew hbk
  have HEK : Hid (Below W.heap.size W wk) := HE4.out.trans (HBK.out.mono HE4.out.size)
  have HPBK := hide (HPB4.out.below HBK.out HPB4.out.lt)
  have HREL : Hid (FndRel W ps 0 (.slice none 0 0) wk) := ⟨[], rfl, World.ownsRow_nil _ _ _ _, .nil, HEK.out⟩
  clear hbk HBK HE4 HPB4 HCF HC1 HC2 HSQ HB HPB hw1 HB24 HXF i3 i4 hcf9 hcq9 hc9 hn1 t1 t2 t3 t4 t5 t6 i1 i2 hk8
  go_wp2
  go_loopw [13, 79] (fun vo i wr => ∃ kk : Nat, kk ≤ ps.length ∧ i = .int .i64 kk ∧ FndRel W ps kk vo wr ∧ Blk wr W.heap.size 56 (placeC g z)) (fun _ i _ => ps.length - (intOf i).toNat)
  case atStart => exact ⟨0, Nat.zero_le _, rfl, HREL.out, HPBK.out⟩
  case round =>
    clear HREL HPBK
    obtain ⟨k', hk', rfl, ⟨us, hus, hown, hsv, hbe⟩, hbk⟩ := hrel
    have HOWN := hide hown
    have HSV := hide hsv
    have HBE := hide hbe
    have HPB := hide hbk
    clear hown hsv hbe hbk
    by_cases hlt : k' < ps.length
    · obtain ⟨p, hp⟩ : ∃ p, ps[k']? = some p := ⟨_, List.getElem?_eq_getElem hlt⟩
      have hpm : p ∈ ps := List.mem_of_getElem? hp
      have HPOK := hide (HOK.out p hpm)
      have hp64 := HPOK.out.2
      have hb64 : (bodyL p).length = 64 := by rw [bodyL_len, hp64]
      obtain ⟨ga', gb, cb, e, hcb, hgb, hxb⟩ := rows_at hAH.out (HBO.out k' p hp)
      injection e with e
      injection e with e
      subst e
      rw [hb64] at hxb hcb
      obtain ⟨r0, hbb⟩ := hxb wr HBE.out
      have HCL := hide (clone_some (bodyL p) ⟨gb, 0, none⟩ 64 cb wr.heap.size wr hb64.symm (by omega) (Nat.le_refl _) hbb)
      have HXH : Hid (∀ X, Below wr.heap.size wr X → BytesAt X X.heap.size (some ⟨gi, 0, none⟩) (headL num ps)) := fun X hX => (HX.out X (HBE.out.trans (hX.mono HBE.out.size))).2
      have i1 : (0 : Int) ≤ (a : Int) + 1 + (k' : Int) := by omega
      have i2 : (a : Int) + 1 + (k' : Int) < (ls.length : Int) := by omega
      have i3 : (0 : Int) ≤ (k' : Int) := by omega
      have i4 : (k' : Int) < (ps.length : Int) := by omega
      have i5 : (0 : Int) ≤ 10 + 5 * (k' : Int) := by omega
      have i6 : 10 + 5 * (k' : Int) ≤ 64 := by omega
      clear hxb hbb HX hAH HBO HOK
      go_wp2_with fail
      refine (unhide HCL).mono ?_
      rintro e y1 ⟨v1, rfl, ho1, hb1⟩
      rw [hb64] at ho1
      obtain ⟨g1, c1, e1, hg1a, hg1b⟩ := ho1.form (by omega)
      subst e1
      have x0 := ho1.cellAt 0 (by omega)
      obtain ⟨z0, hz0'⟩ : ∃ z, (byts (bodyL p))[0]? = some z := ⟨_, List.getElem?_eq_getElem (by rw [byts_length]; omega)⟩
      rw [hz0'] at x0
      have x1 := ho1.frozenAt 0
      have rx := bytes_cell (HXH.out y1 hb1) (headL_x num ps k' p hp)
      obtain ⟨ho2, hg2⟩ := ho1.stored 0 (.int .u8 ((p.2.headD 0).toNat : Int))
      have hset : (byts (bodyL p)).set 0 (.int .u8 ((p.2.headD 0).toNat : Int)) = byts p.2 := by
        rw [← bodyL_back p hp64]
        cases bodyL p <;> rfl
      rw [hset] at ho2
      have HSC : Hid (SecV (y1.setCell ⟨g1, 0, none⟩ (.int .u8 ((p.2.headD 0).toNat : Int))) (fun _ => True) (.slice (some ⟨g1, 0, none⟩) 64 c1) p.2) := by
        have h8 : (y1.setCell ⟨g1, 0, none⟩ (.int .u8 ((p.2.headD 0).toNat : Int))).ownsRow wr.heap.size 5 1 (.slice (some ⟨g1, 0, none⟩) 64 c1) p.2.length (byts p.2) := by rw [hp64]; exact ho2
        exact (SecV.of_own h8 (by omega)).weak (fun _ _ _ => trivial)
      have HB2 : Hid (Below wr.heap.size wr (y1.setCell ⟨g1, 0, none⟩ (.int .u8 ((p.2.headD 0).toNat : Int)))) := hb1.trans ((Fr.of_grown hg2).below hb1.size (fun q e => by injection e with e; have := (ho1.lt q (by exact congrArg some e)).1; omega))
      clear ho2 hg2 ho1 HCL hset
      generalize p.2.headD 0 = x at *
      obtain ⟨y2, hy2⟩ : ∃ y2, y1.setCell ⟨g1, 0, none⟩ (.int .u8 (x.toNat : Int)) = y2 := ⟨_, rfl⟩
      rw [hy2] at HSC HB2
      have HW := hide (word_part (c := ci - (10 + 5 * k')) (HXH.out y2 HB2.out) (10 + 5 * k') 4 p.1 (by omega) (by omega) (by have := HPOK.out.1; omega) (by have := HPOK.out.1; omega) (headL_at num ps k' p hp))
      have HBLD := fun W' => build_put W' (p.1 : Int) g1 64 c1
      have HOWN2 := hide (own_keep HOWN.out (HB2.out.alloc HB2.out.size (.cells #[.int .i64 (p.1 : Int), .slice (some ⟨g1, 0, none⟩) 64 c1] 37)))
      have HAL : Hid (Below y2.heap.size y2 (y2.alloc (.cells #[.int .i64 (p.1 : Int), .slice (some ⟨g1, 0, none⟩) 64 c1] 37))) := (Below.refl _ _).alloc (Nat.le_refl _) _
      have HBE2 : Hid (Below W.heap.size W (y2.alloc (.cells #[.int .i64 (p.1 : Int), .slice (some ⟨g1, 0, none⟩) 64 c1] 37))) := (HBE.out.trans (HB2.out.mono HBE.out.size)).trans (HAL.out.mono (Nat.le_trans HBE.out.size HB2.out.size))
      have HPB2 := hide ((HPB.out.below HB2.out HPB.out.lt).alloc (.cells #[.int .i64 (p.1 : Int), .slice (some ⟨g1, 0, none⟩) 64 c1] 37))
      have HSV2 : Hid (SecVs (y2.alloc (.cells #[.int .i64 (p.1 : Int), .slice (some ⟨g1, 0, none⟩) 64 c1] 37)) (fun _ => True) (us ++ [.slice (some ⟨g1, 0, none⟩) 64 c1]) ((ps.take (k' + 1)).map (·.2))) := by
        show SecVs _ _ _ _
        rw [List.take_succ_eq_append_getElem hlt, List.map_append, show ps[k'] = p from (List.getElem?_eq_some_iff.1 hp).2]
        exact ((HSV.out.below HB2.out).snoc HSC.out).below HAL.out
      have HR9 : Hid (Reads (y2.alloc (.cells #[.int .i64 (p.1 : Int), .slice (some ⟨g1, 0, none⟩) 64 c1] 37)) (y2.heap.size + 1) 2 (some ⟨y2.heap.size, 0, none⟩) 1 [.int .i64 (p.1 : Int), .slice (some ⟨g1, 0, none⟩) 64 c1]) := ⟨rfl, fun _ => ⟨_, rfl, by simp, fun j u hu => by
        rw [add_flat, cell_new, ← hu]
        simp⟩⟩
      obtain ⟨ir, hir, hr0, hr1, hr2⟩ := info_parts info_put
      go_wp2_with first | (go_at_call 42; refine (unhide HW).mono ?_; rintro e w' ⟨rfl, rfl⟩) | (at_builtin; refine wpList_append_any _ rfl (.tmp 100) (.tmp 106) _ rfl W.heap.size 37 ir _ 2 32 Try.underlying66 hir hr0 hr1 hr2 rfl (by omega) u13 k' (putsC (ps.take k') us) rfl HOWN2.out (y2.heap.size + 1) (some ⟨y2.heap.size, 0, none⟩) 1 1 [.int .i64 (p.1 : Int), .slice (some ⟨g1, 0, none⟩) 64 c1] rfl HR9.out (by simp [Value.oneCell']) (by simp only [maxLen]; omega) (by omega) HBE2.out.size ?_; intro v9 W9 hown9 hg9 hat9)
      have HSV9 := hide (HSV2.out.own HOWN2.out (by decide) hg9)
      have HFG : Hid (∀ B, B ≤ W.heap.size → Below B (y2.alloc (.cells #[.int .i64 (p.1 : Int), .slice (some ⟨g1, 0, none⟩) 64 c1] 37)) W9) := fun B hB => (Fr.of_grown hg9).below (Nat.le_trans hB HBE2.out.size) (fun q e => Nat.le_trans hB (HOWN2.out.lt q e).1)
      have HBE9 : Hid (Below W.heap.size W W9) := HBE2.out.trans (HFG.out _ (Nat.le_refl _))
      have hown10 : W9.ownsRow W.heap.size 37 2 v9 (k' + 1) (putsC (ps.take (k' + 1)) (us ++ [.slice (some ⟨g1, 0, none⟩) 64 c1])) := by
        rw [List.take_succ_eq_append_getElem hlt, show ps[k'] = p from (List.getElem?_eq_some_iff.1 hp).2, putsC_snoc _ _ _ _ (by rw [hus, List.length_take]; omega)]
        exact hown9
      go_roundw
      case rel => exact ⟨k' + 1, by omega, by go_num, ⟨_, by simp [hus], hown10, HSV9.out, HBE9.out⟩, HPB2.out.grown hg9 (fun e => own_blk_ne HOWN2.out HPB2.out (by decide) e.symm)⟩
      case measure => simp [intOf]; omega
    · obtain rfl : k' = ps.length := by omega
      rw [List.take_length] at HOWN HSV
      obtain ⟨A', c', e, hpa⟩ := puts_of_own HOWN.out HSV.out
      subst e
      obtain ⟨gr, xs, rfl, hxl, hxs⟩ := hpa.list (by omega)
      have HPA := hide hpa
      have HXS := hide hxs
      have HCN := hide (cont_no xs gr ps.length c' hxl.symm (by omega) 44 #[] #[.pointer (some ⟨W.heap.size, 0, none⟩)] (Below wr.heap.size wr) (Below.refl _ _) (fun k p u w hk hi => (HXS.out k p u hk).2 w hi) run_foundf (fun k p u w hk hi => by
        obtain ⟨⟨b, hb, hs⟩, _⟩ := HXS.out k p u hk
        have ho := HOUT.out (p, b) (List.mem_of_getElem? hb)
        refine (foundf_any (HDV.out.lift (HBE.out.trans (hi.mono HBE.out.size))) z p u hs.one (HPB.out.below hi HPB.out.lt) ho.1 ho.2).mono ?_
        rintro e w' ⟨rfl, hb'⟩
        exact ⟨rfl, hi.trans (hb'.mono hi.size)⟩))
      clear hpa hxs
      go_wp2_with fail
      refine (unhide HCN).mono ?_
      rintro e w' ⟨rfl, hb'⟩
      have HPA' := hide (HPA.out.below hb')
      have HBE' : Hid (Below W.heap.size W w') := HBE.out.trans (hb'.mono HBE.out.size)
      clear hb' HCN
      go_wp2
      go_ret2
      exact ⟨_, _, rfl, HPA'.out, HBE'.out⟩
end
end Go.Proofs.Ytogjdfiimflbaaa
