/-
  Opening a slice of acts. No condition.
-/
import Derived.Test.YtenhjnicadjbaaaDoorLift
import Derived.Test.YtenhjnicadjbaaaDoorActs
import Derived.Deep.Grids
namespace Go.Proofs.YtenhjnicadjbaaaDoor
open Go Go.RowKit Go.ChangeShapes Go.WideShapes

section
variable {H : Type} {enc : TypeId × Value → H} {W : World} {fuel : Nat} {v : Value} {x : DataW H × List MemPlace}
theorem bytes_cell (h : DataW.trod enc Tryd.prog W 0 (fun _ => true) true fuel 23 [v] = some x) : ∃ (A : Option Addr) (l : List UInt8) (c : Nat), v = .slice A l.length c ∧ l.length ≤ c ∧ BytesAt W W.heap.size A l := by
  rcases open_ints Tryd.underlying23 Tryd.underlying5 (by kernel_rfl) h with ⟨hcs, _⟩ | ⟨a, len, cap, zs, hcs, _, hl, hm, hz, _, hcell, hwz⟩
  · obtain rfl : v = .slice none 0 0 := by simpa using hcs
    exact ⟨none, [], 0, rfl, Nat.le_refl _, BytesAt.nil _ _ _⟩
  · obtain rfl : v = .slice (some a) len cap := by simpa using hcs
    simp only [if_true] at hz
    have hlen : (u8s (zs.take len)).length = len := by rw [u8s_len, List.length_take]; omega
    refine ⟨some a, u8s (zs.take len), cap, by rw [hlen], by omega, ?_⟩
    refine bytes_of_ints hz hl hwz fun h0 => ⟨a, rfl, ?_, fun i hi => hcell i (by omega)⟩
    have := World.block_lt_of_cell? W _ (hcell 0 (by omega))
    rwa [block_of_add] at this
theorem ints_cell (h : DataW.trod enc Tryd.prog W 0 (fun _ => true) true fuel 60 [v] = some x) : ∃ (A : Option Addr) (l : List Int) (c : Nat), v = .slice A l.length c ∧ Reads W W.heap.size 1 A l.length (ints l) := by
  rcases open_ints Tryd.underlying60 Tryd.underlying3 (by kernel_rfl) h with ⟨hcs, _⟩ | ⟨a, len, cap, zs, hcs, _, hl, hm, hz, _, hcell, hwz⟩
  · obtain rfl : v = .slice none 0 0 := by simpa using hcs
    exact ⟨none, [], 0, rfl, Reads.none_⟩
  · obtain rfl : v = .slice (some a) len cap := by simpa using hcs
    simp only [if_true] at hz
    have hlen : (zs.take len).length = len := by rw [List.length_take]; omega
    refine ⟨some a, zs.take len, cap, by rw [hlen], by simp [ints], fun h0 => ⟨a, rfl, ?_, fun j u hu => ?_⟩⟩
    · have := World.block_lt_of_cell? W _ (hcell 0 (by omega))
      rwa [block_of_add] at this
    · have hj : j < len := by
        have := (List.getElem?_eq_some_iff.1 hu).1
        rw [ints, List.length_map, hlen] at this
        exact this
      rw [hcell j (by omega), ← hu]
      simp [ints, List.getElem?_take_of_lt hj, List.getD_eq_getElem?_getD, List.getElem?_eq_getElem (show j < zs.length by omega)]
theorem bools_cell (h : DataW.trod enc Tryd.prog W 0 (fun _ => true) true fuel 61 [v] = some x) : ∃ (A : Option Addr) (l : List Bool) (c : Nat), v = .slice A l.length c ∧ Reads W W.heap.size 1 A l.length (bools l) := by
  rcases Go.Deep.open_bools Tryd.underlying61 Tryd.underlying4 (by kernel_rfl) h with ⟨hcs, _⟩ | ⟨a, len, cap, B, hcs, _, hl, hm, _, hcell⟩
  · obtain rfl : v = .slice none 0 0 := by simpa using hcs
    exact ⟨none, [], 0, rfl, Reads.none_⟩
  · obtain rfl : v = .slice (some a) len cap := by simpa using hcs
    have hlen : ((List.range len).map B).length = len := by simp
    refine ⟨some a, (List.range len).map B, cap, by rw [hlen], by simp [bools], fun h0 => ?_⟩
    rw [hlen] at h0
    refine ⟨a, rfl, ?_, fun j u hu => ?_⟩
    · have := World.block_lt_of_cell? W _ (hcell 0 (by omega))
      rwa [block_of_add] at this
    · have hj : j < len := by
        have := (List.getElem?_eq_some_iff.1 hu).1
        simpa [bools] using this
      rw [hcell j (by omega), ← hu]
      simp [bools, hj]
theorem int_cell (h : DataW.trod enc Tryd.prog W 0 (fun _ => true) true fuel 3 [v] = some x) : ∃ z : Int, v = .int .i64 z := by
  obtain ⟨z, e1, _, e3⟩ := DataW.trod_int Tryd.underlying3 h
  exact ⟨z, by simpa using e1⟩
theorem u8_cell (h : DataW.trod enc Tryd.prog W 0 (fun _ => true) true fuel 5 [v] = some x) : ∃ z : UInt8, v = .int .u8 (z.toNat : Int) := by
  obtain ⟨z, e1, _, e3⟩ := DataW.trod_int Tryd.underlying5 h
  refine ⟨UInt8.ofNat z.toNat, ?_⟩
  rw [u8_back e3]
  simpa using e1
theorem trod_at {fs : Array Field} {cs : List Value} {xs : List (DataW H × List MemPlace)} {n : Nat} (hg : ∀ (i : Nat) (f : Field), fs[i]? = some f → DataW.trod enc Tryd.prog W 0 (fun _ => true) true n f.type ((cs.drop f.offset).take (Tryd.prog.cellsOf f.type)) = xs[i]?)
    (i t o c : Nat) (f : Field) (h1 : fs[i]? = some f) (h2 : f.type = t) (h3 : f.offset = o) (h4 : Tryd.prog.cellsOf t = c) : DataW.trod enc Tryd.prog W 0 (fun _ => true) true n t ((cs.drop o).take c) = xs[i]? := by
  subst h2 h3 h4
  exact hg i f h1
end

set_option maxRecDepth 100000 in
theorem open_acts {H : Type} {enc : TypeId × Value → H} {W : World} {A : Option Addr} {n c : Nat} {d : DataW H} {p : List MemPlace} (h : DataW.Trod enc Tryd.prog W 0 (fun _ => true) true 54 (.slice A n c) d p) :
    ∃ vs : List AV, vs.length = n ∧ n ≤ c ∧ c ≤ maxLen ∧ ActsAt W W.heap.size A vs := by
  obtain ⟨fuel, hf⟩ := h
  rcases Go.Deep.open_slice Tryd.underlying54 hf with ⟨hcs, hx⟩ | ⟨a, len, cap, m, k, D, Pl, hcs, _, hl, hm, hmm, _, hi⟩
  · simp [Value.cells] at hcs
    obtain ⟨rfl, rfl, rfl⟩ := hcs
    exact ⟨[], rfl, Nat.le_refl _, Nat.zero_le _, fun h => absurd h (by simp)⟩
  · simp [Value.cells] at hcs
    obtain ⟨rfl, rfl, rfl⟩ := hcs
    simp only [if_true] at hmm
    subst hmm
    have c9 : Tryd.prog.cellsOf 65 = 9 := by kernel_rfl
    have c3 : Tryd.prog.cellsOf 63 = 3 := by kernel_rfl
    have ci : Tryd.prog.cellsOf 3 = 1 := by kernel_rfl
    have cu : Tryd.prog.cellsOf 5 = 1 := by kernel_rfl
    have cb : Tryd.prog.cellsOf 23 = 1 := by kernel_rfl
    have cl : Tryd.prog.cellsOf 60 = 1 := by kernel_rfl
    have ck : Tryd.prog.cellsOf 61 = 1 := by kernel_rfl
    rw [c9] at hi
    have one : ∀ i, i < n → ∃ v : AV, (∀ k < 9, W.cell? (a.add (i * 9 + k)) = v.cells[k]?) ∧ v.Lies W W.heap.size := fun i hin => by
      obtain ⟨cs, hc, ht⟩ := hi i (by omega)
      obtain ⟨_, hcl, hat⟩ := World.cells?_some hc
      obtain ⟨xs, m, _, _, _, hlen, hg⟩ := DataW.trod_struct Tryd.underlying65 ht
      match cs, hcl with
      | [v0, v1, v2, v3, v4, v5, v6, v7, v8], _ =>
        match xs, hlen with
        | [y0, y1, y2, y3, y4, y5, y6], _ =>
          have gg := fun (i t o c : Nat) (f : Field) h1 h2 h3 h4 => trod_at hg i t o c f h1 h2 h3 h4
          have g0 := gg 0 3 0 1 _ rfl rfl rfl ci
          have g1 := gg 1 3 1 1 _ rfl rfl rfl ci
          have g2 := gg 2 3 2 1 _ rfl rfl rfl ci
          have g3 := gg 3 23 3 1 _ rfl rfl rfl cb
          have g4 := gg 4 5 4 1 _ rfl rfl rfl cu
          have g5 := gg 5 60 5 1 _ rfl rfl rfl cl
          have g6 := gg 6 63 6 3 _ rfl rfl rfl c3
          obtain ⟨z0, rfl⟩ := int_cell (v := v0) g0
          obtain ⟨z1, rfl⟩ := int_cell (v := v1) g1
          obtain ⟨z2, rfl⟩ := int_cell (v := v2) g2
          obtain ⟨Ab, lb, cb', rfl, hcb, hb⟩ := bytes_cell (v := v3) g3
          obtain ⟨x4, rfl⟩ := u8_cell (v := v4) g4
          obtain ⟨Ac, lc, cc', rfl, hcc⟩ := ints_cell (v := v5) g5
          obtain ⟨ys, m', _, _, _, hlen', hg'⟩ := DataW.trod_struct Tryd.underlying63 g6
          match ys, hlen' with
          | [w0, w1, w2], _ =>
            have k0 := trod_at hg' 0 61 0 1 _ rfl rfl rfl ck
            have k1 := trod_at hg' 1 3 1 1 _ rfl rfl rfl ci
            have k2 := trod_at hg' 2 3 2 1 _ rfl rfl rfl ci
            obtain ⟨Ak, lk, ck', rfl, hk⟩ := bools_cell (v := v6) k0
            obtain ⟨z7, rfl⟩ := int_cell (v := v7) k1
            obtain ⟨z8, rfl⟩ := int_cell (v := v8) k2
            refine ⟨⟨z0, z1, z2, lb, Ab, cb', x4, lc, Ac, cc', lk, Ak, ck', z7, z8⟩, fun k hk9 => ?_, ⟨hcb, hb, hcc, hk⟩⟩
            rw [← Go.Deep.add_add]
            exact hat k (by simpa using hk9)
    have hch : ∀ i : Nat, ∃ v : AV, i < n → (∀ k < 9, W.cell? (a.add (i * 9 + k)) = v.cells[k]?) ∧ v.Lies W W.heap.size := fun i => by
      by_cases h : i < n
      · obtain ⟨v, hv⟩ := one i h
        exact ⟨v, fun _ => hv⟩
      · exact ⟨⟨0, 0, 0, [], none, 0, 0, [], none, 0, [], none, 0, 0, 0⟩, fun h' => absurd h' h⟩
    obtain ⟨F, hF⟩ := Classical.axiomOfChoice hch
    refine ⟨(List.range n).map F, by simp, hl, hm, fun h0 => ⟨a, rfl, ?_, fun i hi => ?_⟩⟩
    · have h1 : 0 < n := by simpa using h0
      have h2 := (hF 0 h1).1 0 (by omega)
      have := World.block_lt_of_cell? W _ h2
      rwa [block_of_add] at this
    · have hi' : i < n := by simpa using hi
      rw [List.getElem_map, List.getElem_range]
      exact hF i hi'
end Go.Proofs.YtenhjnicadjbaaaDoor
