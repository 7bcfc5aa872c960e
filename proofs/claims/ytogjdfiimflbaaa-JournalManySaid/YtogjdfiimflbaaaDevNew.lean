/-
  A new device. Condition: as many sectors as there may be.
-/
import Derived.Test.YtogjdfiimflbaaaDevRead
import Derived.BigRegion
namespace Go.Proofs.Ytogjdfiimflbaaa
open Go Go.RowKit

def zero64 : List UInt8 := List.replicate 64 0
def newS (n : Nat) : DS := ⟨0, [], -1, List.replicate n zero64, List.replicate n zero64, []⟩
theorem newS_ok {n : Nat} (h : n ≤ 65536) : (newS n).ok := by
  have h64 : All64 (List.replicate n zero64) := fun s hs => by rw [List.eq_of_mem_replicate hs]; rfl
  refine ⟨rfl, h64, h64, fun e he => absurd he List.not_mem_nil, ?_, Nat.zero_le _, Nat.zero_le _, by show (0 : Int) ≤ 0; omega, by show (0 : Int) ≤ 1048576; omega, by show (-2 : Int) ≤ -1; omega, by show (-1 : Int) ≤ 1099511627776; omega⟩
  show (List.replicate n zero64).length ≤ _
  rw [List.length_replicate]
  exact h
theorem flatten_rep (n : Nat) : (List.replicate n zero64).flatten = List.replicate (n * 64) 0 := by
  induction n with
  | zero => rfl
  | succ n ih =>
    rw [List.replicate_succ, List.flatten_cons, ih, zero64, List.replicate_append_replicate]
    congr 1
    omega
theorem secZero_get (k : Nat) (h : k < 64) : secZero[k]! = .int .u8 0 := by
  unfold secZero byts
  generalize hm : (64 : Nat) = m at *
  rw [List.map_replicate]
  simp [h]
theorem sec_cells (n : Nat) : madeCells secZero (n * 64) = (byts (List.replicate n zero64).flatten).toArray := by
  rw [flatten_rep]
  apply Array.ext_getElem?
  intro i
  by_cases hi : i < n * 64
  · have h1 : i % secZero.size < 64 := by rw [secZero_size]; exact Nat.mod_lt _ (by decide)
    have h2 := secZero_get _ h1
    simp only [madeCells, Array.getElem?_map, Array.getElem?_range, hi, byts]
    simp [hi, h2]
  · simp [madeCells, byts, hi]
theorem info_sec3 : (Try.prog.info? 77).map (fun i => (i.zero, i.size, i.bytes)) = some (some (.agg secZero), 64, 64) := by kernel_rfl
set_option maxRecDepth 100000 in
theorem make_secs (n : Nat) (h : n ≤ 65536) (W : World) : (Instr.makeSlice 51 (.int .i64 (n : Int)) (.int .i64 (n : Int))).run Try.prog W = .ok (.slice (some ⟨W.heap.size, 0, none⟩) n n) (W.alloc (.cells (byts (List.replicate n zero64).flatten).toArray 77)) := by
  obtain ⟨i, hi, hz, h1, h2⟩ := info_parts info_sec3
  have := run_make_rowN (P := Try.prog) 51 77 i (.agg secZero) Try.underlying51 hi hz .i64 .i64 n n (Nat.le_refl _) (by rw [h2]; omega) (by omega) W
  rw [this, h1]
  congr 2
  congr 1
  exact sec_cells n

theorem new_dev (W : World) (n gk gn : Nat) (h2 : n ≤ 65536) (t : TypeId) (ht : t = 54) (hk : (gk = W.heap.size ∧ gn = W.heap.size + 1) ∨ (gk = W.heap.size + 1 ∧ gn = W.heap.size)) :
    DevAt (((W.alloc (.cells (byts (List.replicate n zero64).flatten).toArray 77)).alloc (.cells (byts (List.replicate n zero64).flatten).toArray 77)).alloc
      (.cells #[.int .i64 0, .slice none 0 0, .int .i64 (-1), .slice (some ⟨gk, 0, none⟩) n n, .slice (some ⟨gn, 0, none⟩) n n, .slice none 0 0] t)).drew W.heap.size (W.heap.size + 1 + 1) (newS n) := by
  subst ht
  have hl : (newS n).kept.length = n := List.length_replicate
  have b1 : Blk (W.alloc (.cells (byts (List.replicate n zero64).flatten).toArray 77)) W.heap.size 77 (byts (List.replicate n zero64).flatten).toArray := Blk.new _ _ _
  have b2 : Blk ((W.alloc (.cells (byts (List.replicate n zero64).flatten).toArray 77)).alloc (.cells (byts (List.replicate n zero64).flatten).toArray 77)) (W.heap.size + 1) 77 (byts (List.replicate n zero64).flatten).toArray := by
    have := Blk.new (W.alloc (.cells (byts (List.replicate n zero64).flatten).toArray 77)) 77 (byts (List.replicate n zero64).flatten).toArray
    rw [World.size_alloc] at this
    exact this
  refine ⟨gk, gn, .slice none 0 0, .slice none 0 0, newS_ok h2, by omega, by omega, by omega, by omega, ?_, ?_, ?_, World.ownsRow_nil _ _ _ _, World.ownsRow_nil _ _ _ _⟩
  · have := Blk.new ((W.alloc (.cells (byts (List.replicate n zero64).flatten).toArray 77)).alloc (.cells (byts (List.replicate n zero64).flatten).toArray 77)) 54 #[.int .i64 0, .slice none 0 0, .int .i64 (-1), .slice (some ⟨gk, 0, none⟩) n n, .slice (some ⟨gn, 0, none⟩) n n, .slice none 0 0]
    rw [World.size_alloc, World.size_alloc] at this
    unfold devCells
    rw [hl]
    exact this.drew
  · rcases hk with ⟨rfl, _⟩ | ⟨rfl, _⟩
    · exact ((b1.alloc _).alloc _).drew
    · exact (b2.alloc _).drew
  · rcases hk with ⟨_, rfl⟩ | ⟨_, rfl⟩
    · exact (b2.alloc _).drew
    · exact ((b1.alloc _).alloc _).drew

set_option maxRecDepth 100000 in
set_option maxHeartbeats 1000000 in
theorem new_any (W : World) (n : Nat) (h1 : 1 ≤ n) (h2 : n ≤ 65536) :
    Calls Try.prog 5 #[.int .i64 (n : Int)] W fun e W' => ∃ g, e = .returned (.tuple #[.pointer (some ⟨g, 0, none⟩), .int .i64 0]) ∧ DevAt W' W.heap.size g (newS n) ∧ Below W.heap.size W W' := by
  have hmk := fun W' => make_secs n h2 W'
  have HN := hide (newS_ok h2)
  have t1 : decide ((n : Int) < 1) = false := decide_eq_false (by omega)
  have t2 : decide ((n : Int) > 65536) = false := decide_eq_false (by omega)
  generalize hcc : (byts (List.replicate n zero64).flatten).toArray = C at *
  have HC := hide hcc
  clear hcc
  go_enter Try.func5, Try.ntmps5
  go_wp2
  go_region
  all_goals
    go_wp2
    go_ret2
    refine ⟨_, rfl, ?_, (((Below.alloc (Below.refl _ _) (Nat.le_refl _) _).alloc (by simp) _).alloc (by simp; omega) _).drew⟩
    rw [← HC.out]
    exact new_dev W n _ _ h2 _ rfl (by omega)
end Go.Proofs.Ytogjdfiimflbaaa
