/-
  The walks of lru's find, keys, Used, segments, slices.Delete at responses. Conditions: the values read as their data say.
-/
import Derived.Test.YtjijdpdbkpknpaaLruSmall
import Derived.Deep.RegionLaw
import Derived.Lib.SliceRun
import Derived.Lib.SlicesDelete
namespace Go.Proofs.Ytjijdpdbkpknpaa
open Go Go.RowKit

set_option maxRecDepth 100000 in
set_option maxHeartbeats 1000000 in
theorem find_any (k : ByteArray) (L : List (Hd × Loc)) (A : Option Addr) (g o n c B : Nat) (w : World) (hn : n = L.length) (hl : L.length ≤ 1000000) (hB : B ≤ w.heap.size) (hA : Reads w B 17 A n (hrow L)) (hc : w.cell? ⟨g, o, none⟩ = some (.slice A n c)) :
    Calls Try.prog 39 #[.pointer (some ⟨g, o, none⟩), .string k] w fun e w' => e = .returned (.int .i64 (idxI k (L.map (·.1)))) ∧ Below w.heap.size w w' := by
  subst hn
  have hq : (w.alloc (.cells #[.string k] 9)).cell? ⟨w.heap.size, 0, none⟩ = some (.string k) := cell_new _ _ _ _ _
  have HI := hide (ixf_any k L A L.length c B w.heap.size (w.alloc (.cells #[.string k] 9)) rfl hl (by simp; omega) (Reads.alloc hA hB _) hq)
  clear hq
  have hc2 : (w.alloc (.cells #[.string k] 9)).cell? ⟨g, o, none⟩ = some (.slice A L.length c) := cellO hc
  clear hA hc
  go_enter Try.func39, Try.ntmps39
  go_wp2_with fail
  refine (unhide HI).mono ?_
  rintro e w' ⟨rfl, hb⟩
  go_wp2
  go_ret
  exact ⟨rfl, ((Below.refl _ _).alloc (Nat.le_refl _) _).trans (hb.mono (by simp))⟩

theorem setCells_row (w : World) (g o : Nat) (t : TypeId) (cur : Array Value) (vs : List Value) (hg : Blk w g t cur) (hf : o + vs.length ≤ cur.size) (h1 : ∀ v ∈ vs, v.oneCell' = true) :
    w.setCells g o vs = w.setRow g (cur.toList.take o ++ vs ++ cur.toList.drop (o + vs.length)).toArray := by
  have hc : ∀ j, j < vs.length → (w.cell? ⟨g, o + j, none⟩).isSome = true := fun j hj => by
    rw [hg.cell, Array.getElem?_eq_getElem (by omega)]
    rfl
  have e1 := run_storeCells_cells (P := Try.prog) g o vs 0 w (by simpa using hc) (fun j _ => by simpa using hg.frozen (o + 0 + j)) h1
  have e2 := run_storeCells_at (P := Try.prog) g o t vs 0 cur w hg (by omega) h1
  rw [e1] at e2
  simpa using e2

theorem Blk.setRow {w : World} {g : Nat} {t : TypeId} {cs : Array Value} (h : Blk w g t cs) (cs' : Array Value) : Blk (w.setRow g cs') g t cs' := by
  unfold Blk at h ⊢
  simp [World.setRow, Array.getElem?_modify, h]
theorem grown_setRow (w : World) (g : Nat) (cs : Array Value) : w.grownBy (w.setRow g cs) (some g) :=
  ⟨rfl, rfl, rfl, by simp [World.setRow], fun i _ hne => by
    have : ¬ g = i := fun e => hne (by rw [e])
    simp [World.setRow, Array.getElem?_modify, this]⟩
theorem grown_chain {a b c : World} {g : Nat} (h : a.grownBy b (some g)) (k : b.grownBy c (some g)) : a.grownBy c (some g) :=
  ⟨k.os.trans h.os, k.tape.trans h.tape, k.output.trans h.output, Nat.le_trans h.size k.size, fun i hi hne => (k.block i (Nat.lt_of_lt_of_le hi h.size) hne).trans (h.block i hi hne)⟩

theorem zeroCells_one (z : Array Value) : Builtin.zeroCells z 1 = z := by
  unfold Builtin.zeroCells
  apply Array.ext
  · simp
  · intro i h1 h2
    simp only [Nat.one_mul, Array.getElem_map, Array.getElem_range, Nat.mod_eq_of_lt h2]
    exact getElem!_pos z i h2
theorem clear_held (W : World) (g o c : Nat) (cur : Array Value) (hb : Blk W g 40 cur) (hf : o + 17 ≤ cur.size) (ty : TypeId) :
    (Builtin.clear_ #[46] ty #[.slice (some ⟨g, o, none⟩) 1 c]).run Try.prog W = .ok (.tuple #[]) (W.setRow g (cur.toList.take o ++ heldZero.toList ++ cur.toList.drop (o + 17)).toArray) := by
  have hz := zero_held
  have h17 : heldZero.toList.length = 17 := rfl
  have h1 : ∀ v ∈ heldZero.toList, v.oneCell' = true := by decide
  generalize heldZero = zc at *
  have hst := run_storeCells_at (P := Try.prog) g o 40 zc.toList 0 cur W hb (by omega) h1
  simp only [Nat.add_zero, h17] at hst
  have ht : Try.prog.underlying 46 = some (.slice 40) := Try.underlying46
  simp [Builtin.clear_, run_underlying ht, hz, Value.cells, zeroCells_one, hst]

set_option maxRecDepth 100000 in
set_option maxHeartbeats 2000000 in
theorem delete_any (L : List (Hd × Loc)) (g cap n i base : Nat) (w : World) (hown : w.ownsRow base 40 17 (.slice (some ⟨g, 0, none⟩) n cap) n (hrow L)) (hn : n = L.length) (hi : i < L.length) (hl : L.length ≤ 1000000) :
    Calls Try.prog 75 #[.slice (some ⟨g, 0, none⟩) n cap, .int .i64 (i : Int), .int .i64 ((i : Int) + 1)] w fun e w' =>
      e = .returned (.slice (some ⟨g, 0, none⟩) (L.length - 1) cap) ∧ w'.ownsRow base 40 17 (.slice (some ⟨g, 0, none⟩) (L.length - 1) cap) (L.length - 1) (hrow (L.eraseIdx i)) ∧ w.grownBy w' (some g) := by
  subst hn
  obtain ⟨i0, z0, hi0, hz0, hzc, hsz, _⟩ := held_zero4
  rcases hown.2 with ⟨h0, _⟩ | ⟨g', cap', cur, hv, hbase, hg, hnc, hcap, hcs, htk⟩
  · cases h0
  cases hv
  have hb : Blk w g 40 cur := hg
  obtain ⟨news, hnews⟩ : ∃ news, news = hrow (L.drop (i + 1)) := ⟨_, rfl⟩
  have hlen : news.length = (L.length - (i + 1)) * 17 := by rw [hnews, hrow_len, List.length_drop]
  have hget : ∀ t u, news[t]? = some u → cur[(i + 1) * 17 + t]? = some u := by
    intro t u hu
    rw [hnews, ← hrow_drop, List.getElem?_drop, ← htk] at hu
    have hlt := (List.getElem?_eq_some_iff.1 hu).1
    rw [List.length_take] at hlt
    rw [List.getElem?_take_of_lt (by omega), Array.getElem?_toList] at hu
    exact hu
  obtain ⟨A, hA, hsrc⟩ : ∃ A : Addr, (if cap = i + 1 then some (⟨g, 0, none⟩ : Addr) else some ⟨g, (i + 1) * 17, none⟩) = some A ∧ Hid (∀ t u, news[t]? = some u → w.drew.cell? (A.add t) = some u) := by
    by_cases h : cap = i + 1
    · refine ⟨⟨g, 0, none⟩, by simp [h], fun t u hu => ?_⟩
      have h0 : news.length = 0 := by rw [hlen]; omega
      rw [List.length_eq_zero_iff.1 h0] at hu
      simp at hu
    · refine ⟨⟨g, (i + 1) * 17, none⟩, by simp [h], fun t u hu => ?_⟩
      rw [add_flat]
      exact (hb.drew.cell _).trans (hget t u hu)
  have s1 : Hid (news.length = (L.length - (i + 1)) * 17) := hlen
  have s2 : Hid (∀ u ∈ news, u.oneCell' = true) := by rw [hnews]; exact hrow_one
  have s3 : Hid (∀ t, t < news.length → (w.drew.cell? ⟨g, 0 + i * 17 + t, none⟩).isSome = true ∧ w.drew.frozen? ⟨g, 0 + i * 17 + t, none⟩ = false) := by
    intro t ht
    rw [hlen] at ht
    exact ⟨by rw [hb.drew.cell, Array.getElem?_eq_getElem (by omega)]; rfl, hb.drew.frozen _⟩
  obtain ⟨W1, hW1⟩ : ∃ W1, W1 = w.drew.setCells g (0 + i * 17) news := ⟨_, rfl⟩
  have hW1' : W1 = w.drew.setRow g (cur.toList.take (i * 17) ++ news ++ cur.toList.drop (i * 17 + news.length)).toArray := by
    rw [hW1, Nat.zero_add, setCells_row _ _ _ _ cur _ hb.drew (by omega) s2.out]
  have hH1 : Blk W1 g 40 (cur.toList.take (i * 17) ++ news ++ cur.toList.drop (i * 17 + news.length)).toArray := by rw [hW1']; exact hb.drew.setRow _
  have hG1 : w.grownBy W1 (some g) := by rw [hW1']; exact grown_chain (only_drew (World.grownBy.refl w (some g))) (grown_setRow _ _ _)
  have hcl : ∀ c ty, (Builtin.clear_ #[46] ty #[.slice (some ⟨g, (L.length - 1) * 17, none⟩) 1 c]).run Try.prog W1 = _ := fun c ty => clear_held W1 g ((L.length - 1) * 17) c _ hH1 (by simp; omega) ty
  obtain ⟨R, hR⟩ : ∃ R, R = List.take ((L.length - 1) * 17) (cur.toList.take (i * 17) ++ news ++ cur.toList.drop (i * 17 + news.length)) ++ heldZero.toList ++ List.drop ((L.length - 1) * 17 + 17) (cur.toList.take (i * 17) ++ news ++ cur.toList.drop (i * 17 + news.length)) := ⟨_, rfl⟩
  have hll : cur.toList.length = cap * 17 := by rw [Array.length_toList, hcs]
  have hfin : Hid (w.grownBy (W1.setRow g R.toArray) (some g) ∧ Blk (W1.setRow g R.toArray) g 40 R.toArray ∧ R.length = cap * 17 ∧ R.take ((L.length - 1) * 17) = hrow (L.eraseIdx i)) := by
    refine ⟨grown_chain hG1 (grown_setRow _ _ _), hH1.setRow _, ?_, ?_⟩
    · rw [hR]
      have h17 : heldZero.toList.length = 17 := rfl
      simp only [List.length_append, List.length_take, List.length_drop, h17, hlen, hll]
      omega
    · rw [hR, List.append_assoc, List.take_append_of_le_length (by simp only [List.length_append, List.length_take, List.length_drop, hlen, hll]; omega), List.take_take, Nat.min_self]
      rw [List.take_append_of_le_length (by simp only [List.length_append, List.length_take, hlen, hll]; omega), List.take_of_length_le (by simp only [List.length_append, List.length_take, hlen, hll]; omega)]
      rw [List.eraseIdx_eq_take_drop_succ, hrow_append, hnews, ← hrow_take, ← htk, List.take_take, Nat.min_eq_left (by omega)]
  have hcl2 : ∀ c ty, (Builtin.clear_ #[46] ty #[.slice (some ⟨g, (L.length - 1) * 17, none⟩) 1 c]).run Try.prog W1 = .ok (.tuple #[]) (W1.setRow g R.toArray) := fun c ty => by rw [hcl c ty, hR]
  clear hcl
  have hcl := hcl2
  clear hcl2 hR hll
  have HG := hide hG1
  have HW := hide hW1
  clear hW1 hW1' hH1 hget hnews hlen hG1 htk hg hb hown
  obtain ⟨m, hm⟩ : ∃ m, L.length = m + 1 := ⟨L.length - 1, by omega⟩
  rw [hm] at hi hl hnc s1 hcl hfin ⊢
  have HM := hide hm
  clear hm
  rw [show m + 1 - (i + 1) = m - i by omega] at s1
  rw [show m + 1 - 1 = m by omega] at hcl hfin ⊢
  have hic : i ≤ cap := by omega
  have hjc : i + 1 ≤ cap := by omega
  have i1 : (0 : Int) ≤ (i : Int) + 1 := by omega
  have i2 : (i : Int) ≤ (m : Int) := by omega
  have i3 : i + (m - i) = m := by omega
  have i4 : ¬ cap = m := by omega
  have i5 : m + 1 - (i + 1) = m - i := by omega
  go_enter Try.func75, Try.ntmps75
  go_wp2_with fail
  go_region_law (refine step_append_room rfl (.tmp 22) (.tmp 25) 46 rfl 40 i0 17 Try.underlying46 hi0 hsz g 0 i cap (by simp [Act.eval, Act.put]) A (m - i) (cap - (i + 1)) news (by simp [Act.eval, Act.put]) s1.out hsrc.out s2.out (by omega) s3.out ?_; rw [← HW.out])
  go_wp2
  go_ret
  obtain ⟨f1, f2, f3, f4⟩ := hfin.out
  exact ⟨rfl, ⟨by rw [hrow_len, List.length_eraseIdx_of_lt (by rw [HM.out]; omega), HM.out]; omega, .inr ⟨g, cap, R.toArray, rfl, hbase, f2, by omega, hcap, by simpa using f3, by simpa using f4⟩⟩, f1⟩
end Go.Proofs.Ytjijdpdbkpknpaa
