/-
  Plain laws on lru's states: each key is there at most once; what is let go. No program in sight but for the states' words.
-/
import Derived.Test.YtjijdpdbkpknpaaLruScanL
namespace Go.Proofs.Ytjijdpdbkpknpaa
open Go Go.RowKit

/-- how often a key is there -/
def cnt (k : ByteArray) : List Hd → Nat
  | [] => 0
  | h :: r => (if h.key = k then 1 else 0) + cnt k r
theorem cnt_append (k : ByteArray) : ∀ (a b : List Hd), cnt k (a ++ b) = cnt k a + cnt k b
  | [], b => by simp [cnt]
  | x :: a, b => by
    show (if x.key = k then 1 else 0) + cnt k (a ++ b) = (if x.key = k then 1 else 0) + cnt k a + cnt k b
    rw [cnt_append k a b]
    omega
theorem cnt_one (k : ByteArray) (h : Hd) : cnt k [h] = if h.key = k then 1 else 0 := by simp [cnt]
theorem cnt_pos {k : ByteArray} : ∀ {l : List Hd}, has k l = true ↔ 0 < cnt k l
  | [] => by simp [has, atK, cnt]
  | x :: r => by
    have ih := cnt_pos (k := k) (l := r)
    unfold has at ih ⊢
    unfold atK cnt
    by_cases hx : x.key = k
    · simp [hx]
      omega
    · simp [hx] at ih ⊢
      exact ih
theorem has_zero {k : ByteArray} {l : List Hd} : has k l = false ↔ cnt k l = 0 := by
  have := cnt_pos (k := k) (l := l)
  cases h : has k l with
  | true => rw [h] at this; simp at this; simp; omega
  | false => rw [h] at this; simp at this; simp; omega
theorem del_cons (k : ByteArray) (x : Hd) (r : List Hd) : del k (x :: r) = if x.key = k then r else x :: del k r := by
  unfold del
  by_cases hx : x.key = k
  · rw [if_pos hx, show atK k (x :: r) = 0 by rw [atK, if_pos hx]]
    rfl
  · rw [if_neg hx, show atK k (x :: r) = atK k r + 1 by rw [atK, if_neg hx]]
    rfl
theorem cnt_del_self (k : ByteArray) : ∀ (l : List Hd), cnt k (del k l) = cnt k l - 1
  | [] => rfl
  | x :: r => by
    rw [del_cons]
    by_cases hx : x.key = k
    · rw [if_pos hx]
      show _ = (if x.key = k then 1 else 0) + cnt k r - 1
      rw [if_pos hx]
      omega
    · rw [if_neg hx]
      show (if x.key = k then 1 else 0) + cnt k (del k r) = (if x.key = k then 1 else 0) + cnt k r - 1
      rw [if_neg hx, cnt_del_self k r]
      omega
theorem cnt_del_other {k k' : ByteArray} (hne : k' ≠ k) : ∀ (l : List Hd), cnt k' (del k l) = cnt k' l
  | [] => rfl
  | x :: r => by
    rw [del_cons]
    by_cases hx : x.key = k
    · rw [if_pos hx]
      show _ = (if x.key = k' then 1 else 0) + cnt k' r
      rw [if_neg (fun e => hne (e.symm.trans hx))]
      omega
    · rw [if_neg hx]
      show (if x.key = k' then 1 else 0) + cnt k' (del k r) = (if x.key = k' then 1 else 0) + cnt k' r
      rw [cnt_del_other hne r]
theorem cnt_del_le (k k' : ByteArray) (l : List Hd) : cnt k' (del k l) ≤ cnt k' l := by
  by_cases h : k' = k
  · subst h; rw [cnt_del_self]; omega
  · rw [cnt_del_other h]; omega
theorem cnt_shrinkR (b : Nat) (k : ByteArray) : ∀ (r : List Hd), cnt k (shrinkR b r).1 ≤ cnt k r
  | [] => Nat.le_refl _
  | x :: r => by
    unfold shrinkR
    split
    · exact Nat.le_refl _
    · have := cnt_shrinkR b k r
      show cnt k (shrinkR b r).1 ≤ (if x.key = k then 1 else 0) + cnt k r
      omega
theorem cnt_shrinkT (b : Nat) (r : List Hd) (k : ByteArray) : ∀ (t : List Hd), cnt k (shrinkT b r t).1 ≤ cnt k t ∧ cnt k (shrinkT b r t).2.1 ≤ cnt k r
  | [] => ⟨Nat.le_refl _, cnt_shrinkR b k r⟩
  | x :: t => by
    unfold shrinkT
    split
    · exact ⟨Nat.le_refl _, Nat.le_refl _⟩
    · have := cnt_shrinkT b r k t
      refine ⟨?_, this.2⟩
      show cnt k (shrinkT b r t).1 ≤ (if x.key = k then 1 else 0) + cnt k t
      omega
theorem cnt_bal (sh : Nat) (k : ByteArray) : ∀ (r t : List Hd), cnt k (bal sh r t).1 + cnt k (bal sh r t).2 = cnt k t + cnt k r
  | [], t => by show cnt k t + cnt k [] = _; rfl
  | x :: r, t => by
    unfold bal
    split
    · rfl
    · rw [cnt_bal sh k r (t ++ [x]), cnt_append, cnt_one]
      show _ = cnt k t + ((if x.key = k then 1 else 0) + cnt k r)
      omega
/-- each key at most once -/
def CS.nd (S : CS) : Prop := ∀ k, cnt k S.trial + cnt k S.rest ≤ 1
theorem nd_put {S : CS} (h : S.nd) (x : Hd) : (putS S x).1.nd := fun k => by
  have h0 := h k
  have a1 := cnt_del_le x.key k S.trial
  have a2 := cnt_del_le x.key k S.rest
  have one := cnt_one k x
  have key : x.key = k → cnt k (del x.key S.trial) = 0 ∧ cnt k (del x.key S.rest) = 0 := fun e => by
    subst e
    rw [cnt_del_self, cnt_del_self]
    omega
  have sum : cnt k (del x.key S.trial) + cnt k (del x.key S.rest) + cnt k [x] ≤ 1 := by
    rw [one]
    by_cases e : x.key = k
    · rw [if_pos e]
      have := key e
      omega
    · rw [if_neg e]
      omega
  unfold putS
  split
  · show cnt k (del x.key S.trial) + cnt k (del x.key S.rest) ≤ 1
    omega
  · split
    · have := cnt_shrinkT S.budget (del x.key S.rest ++ [x]) k (del x.key S.trial)
      rw [cnt_append] at this
      show cnt k (shrinkT _ _ _).1 + cnt k (shrinkT _ _ _).2.1 ≤ 1
      omega
    · have := cnt_shrinkT S.budget (del x.key S.rest) k (del x.key S.trial ++ [x])
      rw [cnt_append] at this
      show cnt k (shrinkT _ _ _).1 + cnt k (shrinkT _ _ _).2.1 ≤ 1
      omega
theorem cnt_getK {k : ByteArray} : ∀ {l : List Hd} {x : Hd}, getK k l = some x → x.key = k ∧ ∀ k', cnt k' (del k l) + cnt k' [x] = cnt k' l
  | [], x, h => by simp [getK] at h
  | y :: r, x, h => by
    by_cases hy : y.key = k
    · have e : getK k (y :: r) = some y := by unfold getK atK; rw [if_pos hy]; rfl
      rw [e] at h
      cases h
      refine ⟨hy, fun k' => ?_⟩
      rw [del_cons, if_pos hy, cnt_one]
      show _ = (if y.key = k' then 1 else 0) + cnt k' r
      omega
    · have e : getK k (y :: r) = getK k r := by unfold getK; rw [show atK k (y :: r) = atK k r + 1 by rw [atK, if_neg hy]]; rfl
      rw [e] at h
      obtain ⟨h1, h2⟩ := cnt_getK h
      refine ⟨h1, fun k' => ?_⟩
      have := h2 k'
      rw [del_cons, if_neg hy]
      show (if y.key = k' then 1 else 0) + cnt k' (del k r) + cnt k' [x] = (if y.key = k' then 1 else 0) + cnt k' r
      omega
theorem cnt_get (S : CS) (k k' : ByteArray) : cnt k' (getS S k).1.trial + cnt k' (getS S k).1.rest = cnt k' S.trial + cnt k' S.rest := by
  unfold getS
  split
  · split
    · rename_i x hx
      have := (cnt_getK hx).2 k'
      show cnt k' (bal _ _ _).1 + cnt k' (bal _ _ _).2 = _
      rw [cnt_bal, cnt_append]
      omega
    · rfl
  · split
    · rename_i x hx
      have := (cnt_getK hx).2 k'
      show cnt k' (bal _ _ _).1 + cnt k' (bal _ _ _).2 = _
      rw [cnt_bal, cnt_append]
      omega
    · rfl
theorem nd_get {S : CS} (h : S.nd) (k : ByteArray) : (getS S k).1.nd := fun k' => by rw [cnt_get]; exact h k'

/-- all let go -/
def kcnt (k : ByteArray) : List ByteArray → Nat
  | [] => 0
  | x :: r => (if x = k then 1 else 0) + kcnt k r
theorem kcnt_append (k : ByteArray) : ∀ (a b : List ByteArray), kcnt k (a ++ b) = kcnt k a + kcnt k b
  | [], b => by simp [kcnt]
  | x :: a, b => by
    show (if x = k then 1 else 0) + kcnt k (a ++ b) = (if x = k then 1 else 0) + kcnt k a + kcnt k b
    rw [kcnt_append k a b]
    omega
theorem kcnt_keys (k : ByteArray) : ∀ (l : List Hd), kcnt k (keysOf l) = cnt k l
  | [] => rfl
  | x :: r => by
    show (if x.key = k then 1 else 0) + kcnt k (keysOf r) = (if x.key = k then 1 else 0) + cnt k r
    rw [kcnt_keys k r]
theorem nil_of_cnt {l : List Hd} (h : ∀ k, cnt k l = 0) : l = [] := by
  cases l with
  | nil => rfl
  | cons x r =>
    have := h x.key
    unfold cnt at this
    rw [if_pos rfl] at this
    omega
theorem one_has (k : ByteArray) (l : List Hd) (h : cnt k l ≤ 1) : one (has k l) = cnt k l := by
  cases hh : has k l with
  | true => have := cnt_pos.1 hh; show 1 = _; omega
  | false => have := has_zero.1 hh; show 0 = _; omega
theorem drop_all : ∀ (ks : List ByteArray) (S : CS), S.nd → (∀ k, cnt k S.trial + cnt k S.rest = kcnt k ks) → (dropS S ks).2 = ks.length ∧ (dropS S ks).1.trial = [] ∧ (dropS S ks).1.rest = []
  | [], S, _, h => ⟨rfl, nil_of_cnt fun k => by
    have := h k
    simp only [kcnt] at this
    show cnt k S.trial = 0
    omega, nil_of_cnt fun k => by
    have := h k
    simp only [kcnt] at this
    show cnt k S.rest = 0
    omega⟩
  | k :: ks, S, hn, h => by
    have hk := h k
    have hnk := hn k
    have e0 : kcnt k (k :: ks) = 1 + kcnt k ks := by show (if k = k then 1 else 0) + _ = _; rw [if_pos rfl]
    rw [e0] at hk
    obtain ⟨a, b, c⟩ := drop_all ks { S with trial := del k S.trial, rest := del k S.rest } (fun k' => by
      have := hn k'
      have := cnt_del_le k k' S.trial
      have := cnt_del_le k k' S.rest
      show cnt k' (del k S.trial) + cnt k' (del k S.rest) ≤ 1
      omega) (fun k' => by
      show cnt k' (del k S.trial) + cnt k' (del k S.rest) = _
      by_cases e : k' = k
      · subst e
        rw [cnt_del_self, cnt_del_self]
        omega
      · rw [cnt_del_other e, cnt_del_other e]
        have := h k'
        rw [show kcnt k' (k :: ks) = kcnt k' ks by show (if k = k' then 1 else 0) + _ = _; rw [if_neg (fun x => e x.symm)]; omega] at this
        exact this)
    refine ⟨?_, b, c⟩
    show one (has k S.trial) + one (has k S.rest) + _ = (k :: ks).length
    rw [a, one_has k _ (by omega), one_has k _ (by omega), List.length_cons]
    omega
end Go.Proofs.Ytjijdpdbkpknpaa
