/-
  Slices of bools and two parameters, opened for LruOnce. No condition.
-/
import Derived.Test.YtjijdpdbkpknpaaLruOnce
import Derived.Test.YtjijdpdbkpknpaaOpenHeld
namespace Go.Proofs.Ytjijdpdbkpknpaa
open Go Go.RowKit Go.ChangeShapes Go.WideShapes
section
variable {H : Type} {enc : TypeId × Value → H} {W : World} {fuel : Nat} {v : Value} {x : DataW H × List MemPlace}
theorem bools_cell (h : DataW.trod enc Try.prog W 0 (fun _ => true) true fuel 66 [v] = some x) : ∃ (A : Option Addr) (l : List Bool) (c : Nat), v = .slice A l.length c ∧ Reads W W.heap.size 1 A l.length (boolv l) := by
  rcases Go.Deep.open_bools Try.underlying66 Try.underlying4 (by kernel_rfl) h with ⟨hcs, _⟩ | ⟨a, len, cap, B, hcs, _, hl, hm, _, hcell⟩
  · obtain rfl : v = .slice none 0 0 := by simpa using hcs
    exact ⟨none, [], 0, rfl, ⟨rfl, fun h => absurd h (by simp)⟩⟩
  · obtain rfl : v = .slice (some a) len cap := by simpa using hcs
    have hlen : ((List.range len).map B).length = len := by simp
    refine ⟨some a, (List.range len).map B, cap, by rw [hlen], by simp [boolv], fun h0 => ?_⟩
    rw [hlen] at h0
    refine ⟨a, rfl, ?_, fun j u hu => ?_⟩
    · have := World.block_lt_of_cell? W _ (hcell 0 (by omega))
      rwa [block_of_add] at this
    · have hj : j < len := by
        have := (List.getElem?_eq_some_iff.1 hu).1
        simpa [boolv] using this
      rw [hcell j (by omega), ← hu]
      simp [boolv, hj]
end
end Go.Proofs.Ytjijdpdbkpknpaa
