/-
  What each deed keeps of a cache's state: the budget, no key twice, what all cost. No walk.
-/
import Derived.Test.YtjijdpdbkpknpaaLruActsM
namespace Go.Proofs.Ytjijdpdbkpknpaa
open Go Go.RowKit

theorem sumC_app (a b : List Hd) : sumC (a ++ b) = sumC a + sumC b := by simp [sumC]
theorem sumC_con (x : Hd) (l : List Hd) : sumC (x :: l) = costN x + sumC l := by simp [sumC]
theorem sumC_one (x : Hd) : sumC [x] = costN x := by simp [sumC]
theorem sumC_del_le (k : ByteArray) : ∀ (l : List Hd), sumC (del k l) ≤ sumC l
  | [] => Nat.le_refl _
  | x :: r => by
    have ih := sumC_del_le k r
    rw [del_cons]
    split
    · rw [sumC_con]; omega
    · rw [sumC_con, sumC_con]; omega
theorem sumC_getK {k : ByteArray} : ∀ {l : List Hd} {x : Hd}, getK k l = some x → sumC (del k l) + costN x = sumC l
  | [], x, h => by simp [getK] at h
  | y :: r, x, h => by
    rw [del_cons]
    by_cases hy : y.key = k
    · rw [if_pos hy]
      have e : getK k (y :: r) = some y := by unfold getK atK; rw [if_pos hy]; rfl
      rw [e] at h
      injection h with h
      rw [sumC_con, h]; omega
    · rw [if_neg hy]
      have e : getK k (y :: r) = getK k r := by unfold getK; rw [atK, if_neg hy]; rfl
      rw [e] at h
      have ih := sumC_getK h
      rw [sumC_con, sumC_con]; omega
theorem shrinkR_sum (b : Nat) : ∀ (r : List Hd), sumC (shrinkR b r).1 ≤ b
  | [] => by simp [shrinkR, sumC]
  | x :: r => by
    unfold shrinkR
    split
    · assumption
    · exact shrinkR_sum b r
theorem shrinkT_sum (b : Nat) (r : List Hd) : ∀ (t : List Hd), sumC (shrinkT b r t).1 + sumC (shrinkT b r t).2.1 ≤ b
  | [] => by
    have := shrinkR_sum b r
    show sumC [] + sumC (shrinkR b r).1 ≤ b
    rw [show sumC [] = 0 from rfl]
    omega
  | x :: t => by
    unfold shrinkT
    split
    · assumption
    · exact shrinkT_sum b r t
theorem shrinkR_out (b : Nat) : ∀ (r : List Hd), (shrinkR b r).2.length ≤ r.length
  | [] => Nat.le_refl _
  | x :: r => by
    unfold shrinkR
    split
    · exact Nat.zero_le _
    · have := shrinkR_out b r
      simp only [List.length_cons]
      omega
theorem shrinkT_out (b : Nat) (r : List Hd) : ∀ (t : List Hd), (shrinkT b r t).2.2.length ≤ t.length + r.length
  | [] => by
    have := shrinkR_out b r
    show (shrinkR b r).2.length ≤ _
    simp only [List.length_nil]
    omega
  | x :: t => by
    unfold shrinkT
    split
    · exact Nat.zero_le _
    · have := shrinkT_out b r t
      simp only [List.length_cons]
      omega
theorem put_out_len (S : CS) (h : Hd) : (putS S h).2.length ≤ S.trial.length + S.rest.length + 1 := by
  have l1 := len_del h.key S.trial
  have l2 := len_del h.key S.rest
  unfold putS
  split
  · exact Nat.zero_le _
  · split
    · have := shrinkT_out S.budget (del h.key S.rest ++ [h]) (del h.key S.trial)
      rw [List.length_append, List.length_singleton] at this
      show (shrinkT S.budget (del h.key S.rest ++ [h]) (del h.key S.trial)).2.2.length ≤ _
      omega
    · have := shrinkT_out S.budget (del h.key S.rest) (del h.key S.trial ++ [h])
      rw [List.length_append, List.length_singleton] at this
      show (shrinkT S.budget (del h.key S.rest) (del h.key S.trial ++ [h])).2.2.length ≤ _
      omega
def CS.sum (S : CS) : Nat := sumC S.trial + sumC S.rest
theorem put_sum {S : CS} (h : Hd) (hs : S.sum ≤ S.budget) : (putS S h).1.sum ≤ S.budget ∧ (putS S h).1.budget = S.budget := by
  unfold putS
  split
  · refine ⟨?_, rfl⟩
    show sumC (del h.key S.trial) + sumC (del h.key S.rest) ≤ _
    have h1 := sumC_del_le h.key S.trial
    have h2 := sumC_del_le h.key S.rest
    have h3 : sumC S.trial + sumC S.rest ≤ S.budget := hs
    omega
  · split
    · exact ⟨shrinkT_sum _ _ _, rfl⟩
    · exact ⟨shrinkT_sum _ _ _, rfl⟩
theorem bal_sum (sh : Nat) : ∀ (r t : List Hd), sumC (bal sh r t).1 + sumC (bal sh r t).2 = sumC t + sumC r
  | [], t => rfl
  | x :: r, t => by
    unfold bal
    split
    · rfl
    · rw [bal_sum sh r (t ++ [x]), sumC_app, sumC_one, sumC_con]; omega
theorem get_sum (S : CS) (k : ByteArray) : (getS S k).1.sum = S.sum ∧ (getS S k).1.budget = S.budget := by
  unfold getS
  split
  · split
    · rename_i x hx
      refine ⟨?_, rfl⟩
      show sumC (bal _ _ _).1 + sumC (bal _ _ _).2 = sumC S.trial + sumC S.rest
      rw [bal_sum, sumC_app, sumC_one]
      have := sumC_getK hx
      omega
    · exact ⟨rfl, rfl⟩
  · split
    · rename_i x hx
      refine ⟨?_, rfl⟩
      show sumC (bal _ _ _).1 + sumC (bal _ _ _).2 = sumC S.trial + sumC S.rest
      rw [bal_sum, sumC_app, sumC_one]
      have := sumC_getK hx
      omega
    · exact ⟨rfl, rfl⟩
theorem drop_keeps : ∀ (ks : List ByteArray) (S : CS), S.nd → (dropS S ks).1.nd ∧ (dropS S ks).1.budget = S.budget ∧ (dropS S ks).1.len ≤ S.len ∧ (dropS S ks).1.sum ≤ S.sum
  | [], S, h => ⟨h, rfl, Nat.le_refl _, Nat.le_refl _⟩
  | k :: ks, S, h => by
    have h1 : CS.nd { S with trial := del k S.trial, rest := del k S.rest } := fun k' => by
      have a1 := cnt_del_le k k' S.trial
      have a2 := cnt_del_le k k' S.rest
      have := h k'
      show cnt k' (del k S.trial) + cnt k' (del k S.rest) ≤ 1
      omega
    obtain ⟨i1, i2, i3, i4⟩ := drop_keeps ks _ h1
    have l1 := len_del k S.trial
    have l2 := len_del k S.rest
    have s1 := sumC_del_le k S.trial
    have s2 := sumC_del_le k S.rest
    refine ⟨i1, i2, ?_, ?_⟩
    · refine Nat.le_trans i3 ?_
      show (del k S.trial).length + (del k S.rest).length ≤ S.trial.length + S.rest.length
      omega
    · refine Nat.le_trans i4 ?_
      show sumC (del k S.trial) + sumC (del k S.rest) ≤ sumC S.trial + sumC S.rest
      omega
end Go.Proofs.Ytjijdpdbkpknpaa
