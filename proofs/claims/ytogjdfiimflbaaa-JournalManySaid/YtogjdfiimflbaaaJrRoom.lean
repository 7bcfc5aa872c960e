/-
  The walks of journal's room and fault. Conditions: the journal lies so; the puts are right.
-/
import Derived.Test.YtogjdfiimflbaaaJrSet
namespace Go.Proofs.Ytogjdfiimflbaaa
open Go Go.RowKit

def roomR (J : JS) (size : Nat) : Nat × Bool := if J.pos + size ≤ J.z then (J.pos, true) else if J.count = 0 then (2, true) else (2, decide (2 + size ≤ J.base))
section
variable {W : World} {B T j g c m : Nat} {J : JS} {N : List (List UInt8)}
set_option maxRecDepth 100000 in
set_option maxHeartbeats 4000000 in
theorem room_any (h : JAt W B T j g J) (size : Nat) (hs : size < 65536) (hp : J.pos < 65536) (hz : J.z ≤ 65536) :
    Calls Try.prog 29 #[.pointer (some ⟨j, 0, none⟩), .int .i64 (size : Int)] W fun e W' => e = .returned (.tuple #[.int .i64 ((roomR J size).1 : Int), .bool (roomR J size).2]) ∧ Below W.heap.size W W' := by
  obtain ⟨A, co, hpa, hjb⟩ := h.cells
  have r9 : W.cell? ⟨j, 9, none⟩ = some (.bool false) := hjb.cell 9
  have r7 : W.cell? ⟨j, 7, none⟩ = some (.int .i64 (J.pos : Int)) := hjb.cell 7
  have r2 : W.cell? ⟨j, 2, none⟩ = some (.int .i64 (J.z : Int)) := hjb.cell 2
  have r11 : W.cell? ⟨j, 11, none⟩ = some (.int .i64 (J.count : Int)) := hjb.cell 11
  have r8 : W.cell? ⟨j, 8, none⟩ = some (.int .i64 (J.base : Int)) := hjb.cell 8
  clear h hpa hjb
  have hw : IntKind.i64.wrap ((J.pos : Int) + (size : Int)) = (J.pos : Int) + (size : Int) := by rw [IntKind.wrap_i64]; omega
  by_cases h1 : J.pos + size ≤ J.z
  · have t1 : decide ((J.pos : Int) + (size : Int) ≤ (J.z : Int)) = true := decide_eq_true (by omega)
    have hr : roomR J size = (J.pos, true) := if_pos h1
    rw [hr]
    clear hr r8 r11
    go_enter Try.func29, Try.ntmps29
    go_wp2
    go_quiet (fail)
    go_wp2
    go_ret2
    exact ⟨rfl, below_drewN (Below.refl _ _) _⟩
  · have t1 : decide ((J.pos : Int) + (size : Int) ≤ (J.z : Int)) = false := decide_eq_false (by omega)
    by_cases h2 : J.count = 0
    · have hr : roomR J size = (2, true) := by unfold roomR; rw [if_neg h1, if_pos h2]
      rw [hr]
      rw [h2] at r11
      clear hr r8
      go_enter Try.func29, Try.ntmps29
      go_wp2
      go_quiet (fail)
      go_wp2
      go_ret2
      exact ⟨rfl, below_drewN (Below.refl _ _) _⟩
    · have hr : roomR J size = (2, decide (2 + size ≤ J.base)) := by unfold roomR; rw [if_neg h1, if_neg h2]
      have t2 : ((J.count : Int) == 0) = false := by simp; omega
      have t3 : decide ((2 : Int) + (size : Int) ≤ (J.base : Int)) = decide (2 + size ≤ J.base) := by
        by_cases h : 2 + size ≤ J.base
        · rw [decide_eq_true h, decide_eq_true (by omega)]
        · rw [decide_eq_false h, decide_eq_false (by omega)]
      rw [hr]
      clear hr
      generalize decide (2 + size ≤ J.base) = b at *
      go_enter Try.func29, Try.ntmps29
      go_wp2
      go_quiet (fail)
      go_wp2
      go_quiet (fail)
      go_wp2
      go_ret2
      exact ⟨rfl, by rw [World.drewN_drewN]; exact below_drewN (Below.refl _ _) _⟩
end
end Go.Proofs.Ytogjdfiimflbaaa
