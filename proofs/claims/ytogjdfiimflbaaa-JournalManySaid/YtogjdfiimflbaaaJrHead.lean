/-
  The words of a record's head and foot. No walk.
-/
import Derived.Test.YtogjdfiimflbaaaJrOut
import Derived.BigQuiet
namespace Go.Proofs.Ytogjdfiimflbaaa
open Go Go.RowKit

def tailH (ps : List PutL) : List UInt8 := (ps.map fun p => beL p.1 4 ++ [p.2.headD 0]).flatten
theorem headL_eq (n : Nat) (ps : List PutL) : ∃ z, headL n ps = [72] ++ (beL n 8 ++ ([UInt8.ofNat ps.length] ++ (tailH ps ++ z))) := by
  refine ⟨List.replicate (64 - (headP n ps.length ps).length) 0, ?_⟩
  unfold headL padL headP tailH
  simp
theorem headL_0 (n : Nat) (ps : List PutL) : (headL n ps)[0]? = some 72 := by
  obtain ⟨z, e⟩ := headL_eq n ps
  rw [e]
  rfl
theorem headL_1 (n : Nat) (ps : List PutL) : ((headL n ps).drop 1).take 8 = beL n 8 := by
  obtain ⟨z, e⟩ := headL_eq n ps
  rw [e]
  exact take_len_append (beL n 8) _ _ (beL_len _ _)
theorem headL_drop9 (n : Nat) (ps : List PutL) : ∃ z, (headL n ps).drop 9 = [UInt8.ofNat ps.length] ++ (tailH ps ++ z) := by
  obtain ⟨z, e⟩ := headL_eq n ps
  refine ⟨z, ?_⟩
  rw [e, show 9 = 1 + 8 from rfl, ← List.drop_drop]
  exact drop_len_append (beL n 8) _ _ (beL_len _ _)
theorem headL_9 (n : Nat) (ps : List PutL) : (headL n ps)[9]? = some (UInt8.ofNat ps.length) := by
  obtain ⟨z, e⟩ := headL_drop9 n ps
  have : ((headL n ps).drop 9)[0]? = some (UInt8.ofNat ps.length) := by rw [e]; rfl
  simpa [List.getElem?_drop] using this
theorem tailH_drop : ∀ (ps : List PutL) (i : Nat) (p : PutL), ps[i]? = some p → ∃ z, (tailH ps).drop (5 * i) = (beL p.1 4 ++ [p.2.headD 0]) ++ z
  | q :: r, 0, p, h => by
    injection h with h
    subst h
    exact ⟨_, rfl⟩
  | q :: r, i + 1, p, h => by
    obtain ⟨z, e⟩ := tailH_drop r i p h
    refine ⟨z, ?_⟩
    rw [← e, show 5 * (i + 1) = 5 + 5 * i by omega, ← List.drop_drop]
    congr 1
theorem tailH_len : ∀ ps : List PutL, (tailH ps).length = 5 * ps.length
  | [] => rfl
  | q :: r => by
    have := tailH_len r
    unfold tailH at this ⊢
    rw [List.map_cons, List.flatten_cons, List.length_append, this, List.length_append, beL_len]
    simp
    omega
theorem headL_put (n : Nat) (ps : List PutL) (i : Nat) (p : PutL) (h : ps[i]? = some p) : ∃ z, (headL n ps).drop (10 + 5 * i) = (beL p.1 4 ++ [p.2.headD 0]) ++ z := by
  obtain ⟨z, e⟩ := headL_drop9 n ps
  obtain ⟨z', e'⟩ := tailH_drop ps i p h
  have hi := (List.getElem?_eq_some_iff.1 h).1
  refine ⟨z' ++ z, ?_⟩
  rw [show 10 + 5 * i = 9 + (1 + 5 * i) by omega, ← List.drop_drop, e, ← List.drop_drop, show List.drop 1 ([UInt8.ofNat ps.length] ++ (tailH ps ++ z)) = tailH ps ++ z from rfl, List.drop_append_of_le_length (by rw [tailH_len]; omega), e', List.append_assoc]
theorem headL_at (n : Nat) (ps : List PutL) (i : Nat) (p : PutL) (h : ps[i]? = some p) : ((headL n ps).drop (10 + 5 * i)).take 4 = beL p.1 4 := by
  obtain ⟨z, e⟩ := headL_put n ps i p h
  rw [e, List.append_assoc]
  exact take_len_append _ _ _ (beL_len _ _)
theorem headL_x (n : Nat) (ps : List PutL) (i : Nat) (p : PutL) (h : ps[i]? = some p) : (headL n ps)[10 + 5 * i + 4]? = some (p.2.headD 0) := by
  obtain ⟨z, e⟩ := headL_put n ps i p h
  have : ((headL n ps).drop (10 + 5 * i))[4]? = some (p.2.headD 0) := by
    rw [e, List.append_assoc, List.getElem?_append_right (by rw [beL_len]; exact Nat.le_refl _), beL_len]
    rfl
  rw [List.getElem?_drop] at this
  exact this
theorem footL_9 (n : Nat) : (footL n).take 9 = [67] ++ beL n 8 := by
  unfold footL padL
  exact take_len_append _ _ _ (by rw [List.length_append, beL_len]; rfl)
theorem bodyL_back (p : PutL) (h : p.2.length = 64) : (bodyL p).set 0 (p.2.headD 0) = p.2 := by
  obtain ⟨a, l⟩ := p
  cases l with
  | nil => rfl
  | cons x r => rfl
theorem bodyL_len (p : PutL) : (bodyL p).length = p.2.length := by unfold bodyL; rw [List.length_set]
/-- a record lies there -/
def RecAt (ls : List (List UInt8)) (a n : Nat) (ps : List PutL) : Prop :=
  ls[a]? = some (headL n ps) ∧ (∀ i p, ps[i]? = some p → ls[a + 1 + i]? = some (bodyL p)) ∧ ls[a + 1 + ps.length]? = some (footL n)
/-- no record of that number lies there -/
def NoRec (ls : List (List UInt8)) (a n : Nat) : Prop :=
  ls.length ≤ a ∨ ∃ b, ls[a]? = some b ∧ b.length = 64 ∧ ∃ h0, b[0]? = some h0 ∧ (h0 ≠ 72 ∨ ∃ x, x < 72057594037927936 ∧ (b.drop 1).take 8 = beL x 8 ∧ x ≠ n)
end Go.Proofs.Ytogjdfiimflbaaa
