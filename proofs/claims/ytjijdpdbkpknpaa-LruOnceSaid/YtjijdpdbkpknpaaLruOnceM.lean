/-
  The plain law of LruOnce's inner loop: the last place of a key, and whether a place is its first. No program in sight but for the states' words.
-/
import Derived.Test.YtjijdpdbkpknpaaLruOnceL
namespace Go.Proofs.Ytjijdpdbkpknpaa
open Go Go.RowKit

theorem fcN_le (l : List Hd) : ∀ i, fcN l i ≤ i
  | 0 => Nat.le_refl _
  | i + 1 => by
    have := fcN_le l i
    show fcN l i + _ ≤ _
    split
    · split <;> omega
    · omega
theorem fcN_succ (l : List Hd) (i : Nat) (h : i < l.length) : fcN l (i + 1) = fcN l i + if cnt l[i].key (l.take i) = 0 then 1 else 0 := by
  show fcN l i + (match l[i]? with | some h => if cnt h.key (l.take i) = 0 then 1 else 0 | none => 0) = _
  rw [List.getElem?_eq_getElem h]
/-- at place m, behind q places: v is the last of its key so far, b: is m its first? -/
def LastRel (hs : List Hd) (key : ByteArray) (m q v : Nat) (b : Bool) : Prop :=
  (∃ x, hs[v]? = some x ∧ x.key = key ∧ (lastOf key (hs.take q) = some x ∨ (cnt key (hs.take q) = 0 ∧ v = m))) ∧ b = decide (cnt key (hs.take (min q m)) = 0)
theorem LastRel.start (hs : List Hd) (m : Nat) (hm : m < hs.length) : LastRel hs hs[m].key m 0 m true :=
  ⟨⟨hs[m], List.getElem?_eq_getElem hm, rfl, .inr ⟨rfl, rfl⟩⟩, by rw [Nat.zero_min]; rfl⟩
theorem cnt_take_succ (hs : List Hd) (key : ByteArray) (q : Nat) (hq : q < hs.length) : cnt key (hs.take (q + 1)) = cnt key (hs.take q) + if hs[q].key = key then 1 else 0 := by
  rw [List.take_succ_eq_append_getElem hq, cnt_append, cnt_one]
theorem LastRel.yes {hs : List Hd} {key : ByteArray} {m q v : Nat} {b : Bool} (H : LastRel hs key m q v b) (hq : q < hs.length) (hk : hs[q].key = key) : LastRel hs key m (q + 1) q (b && decide (m ≤ q)) := by
  refine ⟨⟨hs[q], List.getElem?_eq_getElem hq, hk, .inl ?_⟩, ?_⟩
  · rw [List.take_succ_eq_append_getElem hq, lastOf_snoc, if_pos hk]
  · rw [H.2]
    by_cases h : m ≤ q
    · rw [Nat.min_eq_right h, Nat.min_eq_right (by omega), decide_eq_true h, Bool.and_true]
    · rw [decide_eq_false h, Bool.and_false, Nat.min_eq_left (by omega : q + 1 ≤ m), cnt_take_succ hs key q hq, if_pos hk]
      exact (decide_eq_false (by omega)).symm
theorem LastRel.no {hs : List Hd} {key : ByteArray} {m q v : Nat} {b : Bool} (H : LastRel hs key m q v b) (hq : q < hs.length) (hk : ¬ hs[q].key = key) : LastRel hs key m (q + 1) v b := by
  obtain ⟨⟨x, h1, h2, h3⟩, h4⟩ := H
  refine ⟨⟨x, h1, h2, ?_⟩, ?_⟩
  · rcases h3 with h3 | ⟨h3, h5⟩
    · left
      rw [List.take_succ_eq_append_getElem hq, lastOf_snoc, if_neg hk]
      exact h3
    · right
      rw [cnt_take_succ hs key q hq, if_neg hk]
      exact ⟨by omega, h5⟩
  · rw [h4]
    by_cases h : m ≤ q
    · rw [Nat.min_eq_right h, Nat.min_eq_right (by omega)]
    · rw [Nat.min_eq_left (by omega : q ≤ m), Nat.min_eq_left (by omega : q + 1 ≤ m), cnt_take_succ hs key q hq, if_neg hk, Nat.add_zero]
theorem cnt_take_pos (hs : List Hd) (m : Nat) (hm : m < hs.length) : cnt hs[m].key hs ≠ 0 := by
  have : hs[m] ∈ hs := List.getElem_mem hm
  have := cnt_mem this
  omega
/-- at the end -/
theorem LastRel.done {hs : List Hd} {m v : Nat} {b : Bool} (hm : m < hs.length) (H : LastRel hs hs[m].key m hs.length v b) : (∃ x, hs[v]? = some x ∧ lastOf hs[m].key hs = some x) ∧ b = decide (cnt hs[m].key (hs.take m) = 0) := by
  obtain ⟨⟨x, h1, h2, h3⟩, h4⟩ := H
  rw [List.take_length] at h3
  refine ⟨⟨x, h1, ?_⟩, by rw [h4, Nat.min_eq_right (by omega)]⟩
  rcases h3 with h3 | ⟨h3, _⟩
  · exact h3
  · exact absurd h3 (cnt_take_pos hs m hm)
end Go.Proofs.Ytjijdpdbkpknpaa
