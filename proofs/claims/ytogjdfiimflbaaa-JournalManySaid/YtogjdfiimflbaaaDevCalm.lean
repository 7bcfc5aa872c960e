/-
  The device's calls where none fails; rows of new sectors. Conditions: the state counts no failing call.
-/
import Derived.Test.YtogjdfiimflbaaaDevWrite
import Derived.Test.YtogjdfiimflbaaaDevCrash
import Derived.Test.YtogjdfiimflbaaaFilled
namespace Go.Proofs.Ytogjdfiimflbaaa
open Go Go.RowKit

def fullL (b : UInt8) : List UInt8 := List.replicate 64 b
theorem fullL_len (b : UInt8) : (fullL b).length = 64 := List.length_replicate
/-- no call fails -/
def Calm (S : DS) : Prop := S.bad = [] ∧ S.left = -1
def tick (S : DS) : DS := { S with n := S.n + 1 }
theorem calm_code {S : DS} (h : Calm S) : codeN S = 0 := by
  unfold codeN
  rw [h.1, h.2, if_neg (by decide), if_neg List.not_mem_nil]
theorem calm_step {S : DS} (h : Calm S) : stepN S = tick S := by
  unfold stepN tick
  rw [if_neg (by rw [h.2]; decide), h.2]
  rfl
theorem there_yes {S : DS} {a n : Nat} (h : a + n ≤ S.kept.length) : thereB S a n = true := decide_eq_true ⟨by omega, by omega, by omega, by omega⟩

theorem take_byts (l : List UInt8) : (byts l).toArray.toList.take l.length = byts l := List.take_of_length_le (by simp [byts])
theorem rows_one {W : World} {g n c : Nat} {l : List UInt8} (h : Blk W g 5 (byts l).toArray) (hn : n = l.length) (hc : l.length ≤ c) : RowsBlk (W.alloc (.cells #[.slice (some ⟨g, 0, none⟩) n c] 22)) (some ⟨W.heap.size, 0, none⟩) [l] := fun _ => by
  subst hn
  refine ⟨_, _, rfl, Blk.new _ _ _, fun i hi => ?_⟩
  obtain rfl : i = 0 := by simpa using hi
  exact ⟨g, c, _, rfl, hc, h.alloc _, take_byts _⟩
theorem rows_two {W : World} {g1 g2 : Nat} {l1 l2 : List UInt8} {n1 n2 c1 c2 : Nat} (h1 : Blk W g1 5 (byts l1).toArray) (h2 : Blk W g2 5 (byts l2).toArray) (hn1 : n1 = l1.length) (hn2 : n2 = l2.length) (hc1 : l1.length ≤ c1) (hc2 : l2.length ≤ c2) :
    RowsBlk (W.alloc (.cells #[.slice (some ⟨g1, 0, none⟩) n1 c1, .slice (some ⟨g2, 0, none⟩) n2 c2] 22)) (some ⟨W.heap.size, 0, none⟩) [l1, l2] := fun _ => by
  subst hn1 hn2
  refine ⟨_, _, rfl, Blk.new _ _ _, fun i hi => ?_⟩
  match i, hi with
  | 0, _ => exact ⟨g1, c1, _, rfl, hc1, h1.alloc _, take_byts _⟩
  | 1, _ => exact ⟨g2, c2, _, rfl, hc2, h2.alloc _, take_byts _⟩
  | n + 2, h => exact absurd h (by simp)
theorem rows_three {W : World} {g1 g2 g3 : Nat} {l1 l2 l3 : List UInt8} {n1 n2 n3 c1 c2 c3 : Nat} (h1 : Blk W g1 5 (byts l1).toArray) (h2 : Blk W g2 5 (byts l2).toArray) (h3 : Blk W g3 5 (byts l3).toArray) (hn1 : n1 = l1.length) (hn2 : n2 = l2.length) (hn3 : n3 = l3.length) (hc1 : l1.length ≤ c1) (hc2 : l2.length ≤ c2) (hc3 : l3.length ≤ c3) :
    RowsBlk (W.alloc (.cells #[.slice (some ⟨g1, 0, none⟩) n1 c1, .slice (some ⟨g2, 0, none⟩) n2 c2, .slice (some ⟨g3, 0, none⟩) n3 c3] 22)) (some ⟨W.heap.size, 0, none⟩) [l1, l2, l3] := fun _ => by
  subst hn1 hn2 hn3
  refine ⟨_, _, rfl, Blk.new _ _ _, fun i hi => ?_⟩
  match i, hi with
  | 0, _ => exact ⟨g1, c1, _, rfl, hc1, h1.alloc _, take_byts _⟩
  | 1, _ => exact ⟨g2, c2, _, rfl, hc2, h2.alloc _, take_byts _⟩
  | 2, _ => exact ⟨g3, c3, _, rfl, hc3, h3.alloc _, take_byts _⟩
  | n + 3, h => exact absurd h (by simp)

theorem reads_of_blk {W : World} {g : Nat} {t : TypeId} {cs : List Value} (h : Blk W g t cs.toArray) : Reads W W.heap.size 1 (some ⟨g, 0, none⟩) cs.length cs := by
  refine ⟨by omega, fun _ => ⟨_, rfl, h.lt, fun j u hu => ?_⟩⟩
  rw [add_flat, Nat.zero_add, h.cell, List.getElem?_toArray]
  exact hu
theorem RowsBlk.rows' {W : World} {A : Option Addr} {ls : List (List UInt8)} (h : RowsBlk W A ls) {B : Nat} (hB : W.heap.size ≤ B) : RowsAt W B A ls := h.rows.lift (Below.refl _ _) hB
/-- a store elsewhere -/
theorem DevAt.far {W : World} {B g q i : Nat} {t : TypeId} {cs : Array Value} {S : DS} (h : DevAt W B g S) (hb : Blk W q t cs) (h1 : t ≠ 54) (h2 : t ≠ 77) (h3 : t ≠ 79) (h4 : t ≠ 3) (u : Value) : DevAt (W.setCell ⟨q, i, none⟩ u) B g S := by
  obtain ⟨gk, gn, bv, qv, h⟩ := h
  have far : ∀ p cs' t', Blk W p t' cs' → t ≠ t' → Blk (W.setCell ⟨q, i, none⟩ u) p t' cs' := fun p cs' t' hp hne => hp.far (fun e => Blk.ne_ hb hp hne (by exact e.symm)) u
  have own : ∀ {e : TypeId} {s n : Nat} {v : Value} {xs : List Value}, W.ownsRow B e s v n xs → t ≠ e → (W.setCell ⟨q, i, none⟩ u).ownsRow B e s v n xs := fun ho he =>
    ho.kept (only_setCell (World.grownBy.refl W (some q)) (.inl rfl) u) (.inr (own_blk_ne ho hb (fun e => he e.symm)))
  exact ⟨gk, gn, bv, qv, h.ok, h.bg, h.bk, h.bn, h.ne, far _ _ _ h.dev h1, far _ _ _ h.kept h2, far _ _ _ h.now h2, own h.bad h4, own h.queue h3⟩
theorem write_calm (W : World) (B g : Nat) (S : DS) (h : DevAt W B g S) (hc : Calm S) (hn : S.n < 1048576) (a : Nat) (ls : List (List UInt8)) (A : Option Addr) (n c : Nat) (hn2 : n = ls.length) (ha : a + ls.length ≤ S.kept.length) (hq : S.q.length + ls.length ≤ 1048576) (h64 : All64 ls) (hA : RowsBlk W A ls) :
    Calls Try.prog 38 #[.pointer (some ⟨g, 0, none⟩), .int .i64 (a : Int), .slice A n c] W fun e W' => e = .returned (.int .i64 0) ∧ DevAt W' B g (writeS (tick S) a ls) ∧ DKeep B W W' := by
  have := write_any W B g S h hn (by rw [hc.2]; omega) a ls A n c hn2 hq h64 hA
  have ht := there_yes ha
  rw [show writeCode S a ls = 0 by unfold writeCode; rw [if_pos ht, calm_code hc], show writeTo S a ls = writeS (tick S) a ls by unfold writeTo; rw [if_pos ht, if_pos (calm_code hc), calm_step hc, Int.toNat_natCast]] at this
  exact this
theorem flush_calm (W : World) (B g : Nat) (S : DS) (h : DevAt W B g S) (hc : Calm S) (hn : S.n < 1048576) :
    Calls Try.prog 21 #[.pointer (some ⟨g, 0, none⟩)] W fun e W' => e = .returned (.int .i64 0) ∧ DevAt W' B g (settleS (tick S)) ∧ DKeep B W W' := by
  have := flush_any W B g S h hn (by rw [hc.2]; omega)
  rw [calm_code hc, show flushTo S = settleS (tick S) by unfold flushTo; rw [if_pos (calm_code hc), calm_step hc]] at this
  exact this
theorem read_calm (W : World) (B g : Nat) (S : DS) (h : DevAt W B g S) (hc : Calm S) (hn : S.n < 1048576) (a n : Nat) (ha : a + n ≤ S.kept.length) :
    Calls Try.prog 12 #[.pointer (some ⟨g, 0, none⟩), .int .i64 (a : Int), .int .i64 (n : Int)] W fun e W' => ∃ A c, e = .returned (.tuple #[.slice A n c, .int .i64 0]) ∧ RowsBlk W' A ((S.now.drop a).take n) ∧ DevAt W' B g (tick S) ∧ DKeep B W W' := by
  have := read_ok W B g S h hn (by rw [hc.2]; omega) a n ha (calm_code hc)
  rw [calm_step hc] at this
  exact this
end Go.Proofs.Ytogjdfiimflbaaa
