/-
  Deeds, opened. No condition.
-/
import Derived.Test.YtjijdpdbkpknpaaLruActs
import Derived.Test.YtjijdpdbkpknpaaOpenHeld
namespace Go.Proofs.Ytjijdpdbkpknpaa
open Go Go.RowKit Go.ChangeShapes Go.WideShapes

section
variable {H : Type} {enc : TypeId × Value → H} {W : World} {fuel : Nat} {v : Value} {x : DataW H × List MemPlace}
def AOk (W : World) (e : AE) : Prop := HeldOk W e.h e.l ∧ Reads W W.heap.size 1 e.ka e.ks.length (strs e.ks)
set_option maxRecDepth 100000 in
set_option maxHeartbeats 1000000 in
theorem act_cells {cs : List Value} (hcs : cs.length = 19) (h : DataW.trod enc Try.prog W 0 (fun _ => true) true fuel 49 cs = some x) (hz : Sz 49 x.1) : ∃ e : AE, cs = e.cells ∧ AOk W e := by
  have ch : Try.prog.cellsOf 40 = 17 := by kernel_rfl
  have cI : Try.prog.cellsOf 3 = 1 := by kernel_rfl
  have cN : Try.prog.cellsOf 28 = 1 := by kernel_rfl
  obtain ⟨xs, m, _, hx, _, hlen, hg⟩ := DataW.trod_struct Try.underlying49 h
  rw [hx] at hz
  match cs, hcs with
  | [v0, v1, v2, v3, v4, v5, v6, v7, v8, v9, v10, v11, v12, v13, v14, v15, v16, v17, v18], _ =>
    match xs, hlen with
    | [y0, y1, y2], _ =>
      have gg := fun (i t o c : Nat) (f : Field) h1 h2 h3 h4 => trod_at hg i t o c f h1 h2 h3 h4
      obtain ⟨kind, rfl⟩ := int_cell (v := v0) (gg 0 3 0 1 _ rfl rfl rfl cI)
      obtain ⟨ka, ks, kc, rfl, hks⟩ := strs_cell (v := v18) (gg 2 28 18 1 _ rfl rfl rfl cN)
      have gE : DataW.trod enc Try.prog W 0 (fun _ => true) true m 40 [v1, v2, v3, v4, v5, v6, v7, v8, v9, v10, v11, v12, v13, v14, v15, v16, v17] = some y1 := gg 1 40 1 17 _ rfl rfl rfl ch
      have hz1 : Sz 40 y1.1 := hz.part Try.underlying49 (j := 1) (u := 40) rfl rfl rfl
      obtain ⟨hd, l, e, hok⟩ := held_cells rfl gE hz1
      refine ⟨⟨kind, hd, l, ka, ks, kc⟩, ?_, hok, hks⟩
      show Value.int .i64 kind :: ([v1, v2, v3, v4, v5, v6, v7, v8, v9, v10, v11, v12, v13, v14, v15, v16, v17] ++ [Value.slice ka ks.length kc]) = _
      rw [e]
      rfl
theorem open_acts {A : Option Addr} {n c : Nat} {d : DataW H} {p : List MemPlace} (h : DataW.Trod enc Try.prog W 0 (fun _ => true) true 54 (.slice A n c) d p) (hz : Sz 54 d) :
    ∃ L : List AE, L.length = n ∧ ActsAt W W.heap.size A L := by
  obtain ⟨fuel, hf⟩ := h
  have ch : Try.prog.cellsOf 49 = 19 := by kernel_rfl
  rcases Go.Deep.open_slice Try.underlying54 hf with ⟨hcs, hx⟩ | ⟨a, len, cap, m, k, D, Pl, hcs, _, hl, hm, hmm, hx, hi⟩
  · simp [Value.cells] at hcs
    obtain ⟨rfl, rfl, rfl⟩ := hcs
    exact ⟨[], rfl, ⟨rfl, fun h => absurd h (by simp)⟩, fun x hx => by simp at hx⟩
  · simp [Value.cells] at hcs
    obtain ⟨rfl, rfl, rfl⟩ := hcs
    simp only [if_true] at hmm
    rw [ch] at hi
    have hd : d = .slice ((List.range n).map D) ((List.range (m - n)).map fun j => D (n + j)) := congrArg Prod.fst hx
    rw [hd] at hz
    have one : ∀ i, i < n → ∃ z : AE, (∀ j u, z.cells[j]? = some u → W.cell? ((a.add (i * 19)).add j) = some u) ∧ AOk W z := fun i hin => by
      obtain ⟨cs, hc', ht'⟩ := hi i (by omega)
      obtain ⟨_, hcl, hat⟩ := World.cells?_some hc'
      obtain ⟨z, e, hok⟩ := act_cells hcl ht' (hz.elem Try.underlying54 (List.mem_map_of_mem (List.mem_range.2 hin)))
      refine ⟨z, fun j u hu => ?_, hok⟩
      rw [hat j (by have := (List.getElem?_eq_some_iff.1 hu).1; exact this), e]
      exact hu
    have hch : ∀ i : Nat, ∃ z : AE, i < n → (∀ j u, z.cells[j]? = some u → W.cell? ((a.add (i * 19)).add j) = some u) ∧ AOk W z := fun i => by
      by_cases h : i < n
      · obtain ⟨z, hz⟩ := one i h
        exact ⟨z, fun _ => hz⟩
      · exact ⟨⟨0, zh, zl, none, [], 0⟩, fun h' => absurd h' h⟩
    obtain ⟨F, hF⟩ := Classical.axiomOfChoice hch
    have hll : ((List.range n).map F).length = n := by simp
    have hrl : ∀ L : List AE, (arow L).length = L.length * 19 := fun L => by
      induction L with
      | nil => rfl
      | cons x r ih =>
        show (x.cells ++ arow r).length = (r.length + 1) * 19
        rw [List.length_append, ih, AE.len]; omega
    refine ⟨(List.range n).map F, hll, ⟨by rw [hrl], fun h0 => ⟨a, rfl, ?_, fun j u hu => ?_⟩⟩, fun x hx => ?_⟩
    · rw [hll] at h0
      have h2 := (hF 0 h0).1 0 _ rfl
      have := World.block_lt_of_cell? W _ h2
      rwa [block_of_add, block_of_add] at this
    · have hj : j < n * 19 := by
        have := (List.getElem?_eq_some_iff.1 hu).1
        rwa [hrl, hll] at this
      have hk : j / 19 < n := by omega
      have hk' : j / 19 < ((List.range n).map F).length := by rw [hll]; exact hk
      have e17 : j = j / 19 * 19 + j % 19 := by omega
      have hget : ((List.range n).map F)[j / 19] = F (j / 19) := by simp
      have hj17 : j % 19 < (F (j / 19)).cells.length := by rw [AE.len]; omega
      have hu2 := flat_get AE.cells 19 AE.len ((List.range n).map F) (j / 19) hk' (j % 19) (F (j / 19)).cells[j % 19] (by rw [hget]; exact List.getElem?_eq_getElem hj17)
      change (arow ((List.range n).map F))[j / 19 * 19 + j % 19]? = _ at hu2
      rw [← e17, hu] at hu2
      have := (hF (j / 19) hk).1 (j % 19) _ (List.getElem?_eq_getElem hj17)
      rw [add_of_add, ← e17] at this
      rw [this, hu2]
    · obtain ⟨i, hi2, rfl⟩ := List.mem_map.1 hx
      have := (hF i (List.mem_range.1 hi2)).2
      exact ⟨this.1.1, this.1.2, this.2⟩
end
end Go.Proofs.Ytjijdpdbkpknpaa
