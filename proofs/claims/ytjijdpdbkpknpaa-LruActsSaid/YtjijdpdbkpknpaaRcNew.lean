/-
  The walks of both News: the document's, and lru's where there may be none. Conditions: each theorem's own.
-/
import Derived.Test.YtjijdpdbkpknpaaRcGet
namespace Go.Proofs.Ytjijdpdbkpknpaa
open Go Go.RowKit

def BadNew (b s : Int) : Prop := b < 0 ∨ 1099511627776 < b ∨ s < 0 ∨ 100 < s
set_option maxRecDepth 100000 in
set_option maxHeartbeats 1000000 in
theorem new_bad (b s : Int) (h : BadNew b s) (w : World) :
    Calls Try.prog 9 #[.int .i64 b, .int .i64 s] w fun e w' => e = .returned (.tuple #[.pointer none, .int .i64 2]) ∧ Below w.heap.size w w' := by
  unfold BadNew at h
  by_cases h1 : b < 0
  · clear h
    go_enter Try.func9, Try.ntmps9
    go_wp2
    go_ret2
    exact ⟨rfl, Below.refl _ _⟩
  · by_cases h2 : 1099511627776 < b
    · clear h
      go_enter Try.func9, Try.ntmps9
      go_wp2
      go_ret2
      exact ⟨rfl, Below.refl _ _⟩
    · by_cases h3 : s < 0
      · clear h
        go_enter Try.func9, Try.ntmps9
        go_wp2
        go_ret2
        exact ⟨rfl, Below.refl _ _⟩
      · have h4 : 100 < s := by omega
        clear h
        go_enter Try.func9, Try.ntmps9
        go_wp2
        go_ret2
        exact ⟨rfl, Below.refl _ _⟩
set_option maxRecDepth 100000 in
set_option maxHeartbeats 1000000 in
theorem rnew_bad (b s : Int) (h : BadNew b s) (w : World) :
    Calls Try.prog 18 #[.int .i64 b, .int .i64 s] w fun e w' => e = .returned (.tuple #[.pointer none, .bool false]) ∧ Below w.heap.size w w' := by
  unfold BadNew at h
  by_cases h1 : b < 0
  · clear h
    go_enter Try.func18, Try.ntmps18
    go_wp2
    go_ret2
    exact ⟨rfl, Below.refl _ _⟩
  · by_cases h2 : 1099511627776 < b
    · clear h
      go_enter Try.func18, Try.ntmps18
      go_wp2
      go_ret2
      exact ⟨rfl, Below.refl _ _⟩
    · by_cases h3 : s < 0
      · clear h
        go_enter Try.func18, Try.ntmps18
        go_wp2
        go_ret2
        exact ⟨rfl, Below.refl _ _⟩
      · have h4 : 100 < s := by omega
        clear h
        go_enter Try.func18, Try.ntmps18
        go_wp2
        go_ret2
        exact ⟨rfl, Below.refl _ _⟩
set_option maxRecDepth 100000 in
set_option maxHeartbeats 1000000 in
theorem rnew_any (b s : Nat) (hb : b ≤ 1099511627776) (hs : s ≤ 100) (w : World) (B : Nat) (hB : B ≤ w.heap.size) :
    Calls Try.prog 18 #[.int .i64 (b : Int), .int .i64 (s : Int)] w fun e w' => e = .returned (.tuple #[.pointer (some ⟨w.heap.size, 0, none⟩), .bool true]) ∧ RefAt w' (fun q => q = w.heap.size) B w.heap.size ⟨b, b * s / 100, [], []⟩ ∧ Below w.heap.size w w' := by
  have hm0 : b * s ≤ 1099511627776 * 100 := Nat.mul_le_mul hb hs
  have hm : (b : Int) * (s : Int) ≤ 109951162777600 := by
    have : ((b * s : Nat) : Int) ≤ 109951162777600 := by omega
    rwa [Int.natCast_mul] at this
  have hm1 : (0 : Int) ≤ (b : Int) * (s : Int) := by
    have : (0 : Int) ≤ ((b * s : Nat) : Int) := by omega
    rwa [Int.natCast_mul] at this
  have HQ : Hid ((b : Int) * (s : Int) / 100 = ((b * s / 100 : Nat) : Int)) := by
    show _ = _
    rw [← Int.natCast_mul]
    omega
  go_enter Try.func18, Try.ntmps18
  go_wp2
  go_ret2
  refine ⟨rfl, ?_, (Below.refl _ _).alloc (Nat.le_refl _) _⟩
  rw [HQ.out]
  refine ⟨.slice none 0 0, .slice none 0 0, [], [], ⟨⟨hb, by show b * s / 100 ≤ _; omega, by simp, fun h hh => by simp at hh⟩, fun q hq => by rw [hq]; simp, fun q hq => by omega, rfl, Blk.new _ _ _, rfl, rfl, World.ownsRow_nil _ _ _ _, World.ownsRow_nil _ _ _ _, fun q hq => by simp [Value.ownBlock] at hq, fun q hq => by simp [Value.ownBlock] at hq, fun q hq => by simp [Value.ownBlock] at hq, fun x hx => by simp at hx, fun x hx => by simp at hx⟩⟩
end Go.Proofs.Ytjijdpdbkpknpaa
