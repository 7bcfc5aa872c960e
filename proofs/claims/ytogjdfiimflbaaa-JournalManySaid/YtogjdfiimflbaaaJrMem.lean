/-
  What stays outside of some blocks; for the journal's walks. No walk.
-/
import Derived.Test.YtogjdfiimflbaaaDevCalm
namespace Go.Proofs.Ytogjdfiimflbaaa
open Go Go.RowKit

/-- what is outside of O stays -/
structure Fr (O : Nat → Prop) (w w' : World) : Prop where
  os : w'.os = w.os
  tape : w'.tape = w.tape
  output : w'.output = w.output
  size : w.heap.size ≤ w'.heap.size
  block : ∀ q, q < w.heap.size → ¬ O q → w'.heap[q]? = w.heap[q]?
section
variable {O O' : Nat → Prop} {a b c : World}
theorem Fr.refl (O : Nat → Prop) (a : World) : Fr O a a := ⟨rfl, rfl, rfl, Nat.le_refl _, fun _ _ _ => rfl⟩
theorem Fr.trans (h : Fr O a b) (k : Fr O' b c) (hO : ∀ q, q < a.heap.size → O' q → O q) : Fr O a c :=
  ⟨k.os.trans h.os, k.tape.trans h.tape, k.output.trans h.output, Nat.le_trans h.size k.size, fun q hq hn => (k.block q (Nat.lt_of_lt_of_le hq h.size) (fun e => hn (hO q hq e))).trans (h.block q hq hn)⟩
theorem Fr.weak (h : Fr O a b) (hO : ∀ q, q < a.heap.size → O q → O' q) : Fr O' a b := ⟨h.os, h.tape, h.output, h.size, fun q hq hn => h.block q hq (fun e => hn (hO q hq e))⟩
theorem Fr.of_below (h : Below a.heap.size a b) (O : Nat → Prop) : Fr O a b := ⟨h.os, h.tape, h.output, h.size, fun q hq _ => h.block q hq⟩
theorem Fr.of_grown {r : Option Nat} (h : a.grownBy b r) : Fr (fun q => r = some q) a b := ⟨h.os, h.tape, h.output, h.size, fun q hq hn => h.block q hq (fun e => hn e.symm)⟩
theorem Fr.of_set (w : World) (p : Addr) (u : Value) : Fr (fun q => q = p.block) w (w.setCell p u) := ⟨rfl, rfl, rfl, by simp [World.setCell], fun q _ hn => Below.heap_setCell w p u q hn⟩
theorem Fr.below {B : Nat} (h : Fr O a b) (hB : B ≤ a.heap.size) (hO : ∀ q, O q → B ≤ q) : Below B a b :=
  ⟨h.os, h.tape, h.output, h.size, fun q hq => h.block q (by omega) (fun e => by have := hO q e; omega)⟩
theorem Fr.blk (h : Fr O a b) {g : Nat} {t : TypeId} {cs : Array Value} (hb : Blk a g t cs) (hg : ¬ O g) : Blk b g t cs := (h.block g hb.lt hg).trans hb
theorem Fr.own (h : Fr O a b) {base : Nat} {e : TypeId} {size n : Nat} {v : Value} {xs : List Value} (ho : a.ownsRow base e size v n xs) (hg : ∀ q, v.ownBlock = some q → ¬ O q) : b.ownsRow base e size v n xs := by
  refine ⟨ho.1, ?_⟩
  rcases ho.2 with hn | ⟨g, cap, cur, rfl, hb, hgg, rest⟩
  · exact .inl hn
  · exact .inr ⟨g, cap, cur, rfl, hb, (h.block g (Array.getElem?_eq_some_iff.1 hgg).1 (hg g rfl)).trans hgg, rest⟩
end


theorem info_cbyt : (Try.prog.info? 5).map (fun i => (i.zero, i.size, i.bytes)) = some (some (.int .u8 0), 1, 1) := by kernel_rfl
theorem Fr.to_dkeep {O : Nat → Prop} {W W' : World} {B : Nat} (h : Fr O W W') (hB : B ≤ W.heap.size) (hO : ∀ q, O q → B ≤ q) : Below B W W' := h.below hB hO
end Go.Proofs.Ytogjdfiimflbaaa
