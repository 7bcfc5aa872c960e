/-
  The plain law of LruOnce: each key once, with what was put last. No program in sight but for the states' words.
-/
import Derived.Test.YtjijdpdbkpknpaaLruTwo
namespace Go.Proofs.Ytjijdpdbkpknpaa
open Go Go.RowKit

def lastOf (k : ByteArray) : List Hd → Option Hd
  | [] => none
  | h :: r => match lastOf k r with
    | some x => some x
    | none => if h.key = k then some h else none
theorem lastOf_snoc (k : ByteArray) (h : Hd) : ∀ (l : List Hd), lastOf k (l ++ [h]) = if h.key = k then some h else lastOf k l
  | [] => rfl
  | x :: r => by
    show (match lastOf k (r ++ [h]) with | some x => some x | none => if x.key = k then some x else none) = _
    rw [lastOf_snoc k h r]
    by_cases e : h.key = k
    · rw [if_pos e, if_pos e]
    · rw [if_neg e, if_neg e]
      rfl
def fcN (l : List Hd) : Nat → Nat
  | 0 => 0
  | i + 1 => fcN l i + (match l[i]? with | some h => if cnt h.key (l.take i) = 0 then 1 else 0 | none => 0)
theorem del_mem {k : ByteArray} {l : List Hd} {x : Hd} (h : x ∈ del k l) : x ∈ l := List.mem_of_mem_eraseIdx h
theorem cnt_mem {x : Hd} : ∀ {l : List Hd}, x ∈ l → 0 < cnt x.key l
  | y :: r, h => by
    unfold cnt
    rcases List.mem_cons.1 h with e | e
    · subst e; rw [if_pos rfl]; omega
    · have := cnt_mem e; omega
theorem sum_getK {k : ByteArray} {l : List Hd} {x : Hd} (h : getK k l = some x) : costN x + sumC (del k l) = sumC l := by
  obtain ⟨hlt, e⟩ := List.getElem?_eq_some_iff.1 h
  have := sumC_erase l (atK k l) hlt
  rw [e] at this
  exact this.symm
theorem getK_mem {k : ByteArray} {l : List Hd} {x : Hd} (h : getK k l = some x) : x ∈ l := List.mem_of_getElem? h
theorem bal_mem (sh : Nat) {x : Hd} : ∀ (r t : List Hd), x ∈ (bal sh r t).1 ++ (bal sh r t).2 → x ∈ t ∨ x ∈ r
  | [], t, h => by
    have h' : x ∈ t ++ [] := h
    rw [List.append_nil] at h'
    exact .inl h'
  | y :: r, t, h => by
    unfold bal at h
    split at h
    · exact List.mem_append.1 h
    · rcases bal_mem sh r (t ++ [y]) h with e | e
      · rcases List.mem_append.1 e with e | e
        · exact .inl e
        · exact .inr (List.mem_cons.2 (.inl (List.mem_singleton.1 e)))
      · exact .inr (List.mem_cons_of_mem _ e)
theorem bal_sum (sh : Nat) : ∀ (r t : List Hd), sumC (bal sh r t).1 + sumC (bal sh r t).2 = sumC t + sumC r
  | [], t => rfl
  | y :: r, t => by
    unfold bal
    split
    · rfl
    · rw [bal_sum sh r (t ++ [y]), sumC_append, sumC_cons y r]
      have : sumC [y] = costN y := by simp [sumC]
      omega
theorem get_mem {S : CS} {k : ByteArray} {x : Hd} (h : x ∈ (getS S k).1.trial ++ (getS S k).1.rest) : x ∈ S.trial ++ S.rest := by
  unfold getS at h
  split at h
  · split at h
    · rename_i y hy
      rcases bal_mem S.share (S.rest ++ [y]) (del k S.trial) h with e | e
      · exact List.mem_append_left _ (del_mem e)
      · rcases List.mem_append.1 e with e | e
        · exact List.mem_append_right _ e
        · rw [List.mem_singleton.1 e]; exact List.mem_append_left _ (getK_mem hy)
    · exact h
  · split at h
    · rename_i y hy
      rcases bal_mem S.share (del k S.rest ++ [y]) S.trial h with e | e
      · exact List.mem_append_left _ e
      · rcases List.mem_append.1 e with e | e
        · exact List.mem_append_right _ (del_mem e)
        · rw [List.mem_singleton.1 e]; exact List.mem_append_right _ (getK_mem hy)
    · exact h
theorem get_sum (S : CS) (k : ByteArray) : sumC (getS S k).1.trial + sumC (getS S k).1.rest = sumC S.trial + sumC S.rest := by
  unfold getS
  split
  · split
    · rename_i y hy
      have := sum_getK hy
      show sumC (bal _ _ _).1 + sumC (bal _ _ _).2 = _
      rw [bal_sum, sumC_append]
      have : sumC [y] = costN y := by simp [sumC]
      omega
    · rfl
  · split
    · rename_i y hy
      have := sum_getK hy
      show sumC (bal _ _ _).1 + sumC (bal _ _ _).2 = _
      rw [bal_sum, sumC_append]
      have : sumC [y] = costN y := by simp [sumC]
      omega
    · rfl
theorem get_budget (S : CS) (k : ByteArray) : (getS S k).1.budget = S.budget := by
  unfold getS
  split <;> split <;> rfl

structure OnceOk (hs : List Hd) (i : Nat) (S : CS) : Prop where
  bud : S.budget = 1073741824
  cnt : ∀ k, cnt k S.trial + cnt k S.rest = if Proofs.Ytjijdpdbkpknpaa.cnt k (hs.take i) = 0 then 0 else 1
  mem : ∀ h ∈ S.trial ++ S.rest, lastOf h.key (hs.take i) = some h
  sum : sumC S.trial + sumC S.rest ≤ i * 1048576
  len : S.len = fcN hs i
theorem OnceOk.nd {hs : List Hd} {i : Nat} {S : CS} (H : OnceOk hs i S) : S.nd := fun k => by
  rw [H.cnt k]
  split <;> omega
theorem OnceOk.get {hs : List Hd} {i : Nat} {S : CS} (H : OnceOk hs i S) (k : ByteArray) : OnceOk hs i (getS S k).1 :=
  ⟨by rw [get_budget]; exact H.bud, fun k' => by rw [cnt_get]; exact H.cnt k', fun h hh => H.mem h (get_mem hh), by rw [get_sum]; exact H.sum, by rw [len_get]; exact H.len⟩
theorem OnceOk.start (hs : List Hd) (s : Nat) : OnceOk hs 0 ⟨1073741824, s, [], []⟩ := ⟨rfl, fun k => rfl, fun h hh => by simp at hh, by simp [sumC], rfl⟩
theorem del_len_has {k : ByteArray} {l : List Hd} (h : Proofs.Ytjijdpdbkpknpaa.cnt k l ≤ 1) : (del k l).length + Proofs.Ytjijdpdbkpknpaa.cnt k l = l.length := by
  by_cases e : has k l = true
  · have hp := cnt_pos.1 e
    have hlt : atK k l < l.length := of_decide_eq_true e
    unfold del
    rw [List.length_eraseIdx_of_lt hlt]
    omega
  · have e' : has k l = false := by simpa using e
    rw [del_no e', has_zero.1 e']
    rfl
theorem OnceOk.put {hs : List Hd} {i : Nat} {S : CS} (H : OnceOk hs i S) (hi : i < hs.length) (hi2 : i < 30) (hok : hs[i].ok) : (putS S hs[i]).2 = [] ∧ OnceOk hs (i + 1) (putS S hs[i]).1 := by
  have htk : hs.take (i + 1) = hs.take i ++ [hs[i]] := List.take_succ_eq_append_getElem hi
  have hfc : fcN hs (i + 1) = fcN hs i + if Proofs.Ytjijdpdbkpknpaa.cnt hs[i].key (hs.take i) = 0 then 1 else 0 := by
    show fcN hs i + (match hs[i]? with | some h => if Proofs.Ytjijdpdbkpknpaa.cnt h.key (hs.take i) = 0 then 1 else 0 | none => 0) = _
    rw [List.getElem?_eq_getElem hi]
  have hcost := hok.2.2.2.2
  generalize hs[i] = h at *
  have hnd := H.nd
  have hsum := H.sum
  have d1 := sumC_del h.key S.trial
  have d2 := sumC_del h.key S.rest
  have hb : ¬ S.budget < costN h := by rw [H.bud]; omega
  have so : sumC [h] = costN h := by simp [sumC]
  have key : ∀ T R : List Hd, (∀ x, x ∈ T ++ R ↔ x ∈ del h.key S.trial ∨ x ∈ del h.key S.rest ∨ x = h) → (∀ k, Proofs.Ytjijdpdbkpknpaa.cnt k T + Proofs.Ytjijdpdbkpknpaa.cnt k R = Proofs.Ytjijdpdbkpknpaa.cnt k (del h.key S.trial) + Proofs.Ytjijdpdbkpknpaa.cnt k (del h.key S.rest) + Proofs.Ytjijdpdbkpknpaa.cnt k [h]) →
      sumC T + sumC R ≤ (i + 1) * 1048576 → T.length + R.length = (del h.key S.trial).length + (del h.key S.rest).length + 1 → OnceOk hs (i + 1) { S with trial := T, rest := R } := fun T R hm hc hsu hl => by
    refine ⟨H.bud, fun k => ?_, fun x hx => ?_, hsu, ?_⟩
    · show Proofs.Ytjijdpdbkpknpaa.cnt k T + Proofs.Ytjijdpdbkpknpaa.cnt k R = _
      rw [hc k, htk, cnt_append, cnt_one]
      have := H.cnt k
      by_cases e : h.key = k
      · subst e
        rw [cnt_del_self, cnt_del_self, if_pos rfl]
        have := hnd h.key
        rw [if_neg (by omega)]
        omega
      · rw [cnt_del_other (fun x => e x.symm), cnt_del_other (fun x => e x.symm), if_neg e, this]
        simp
    · have hx' : x ∈ T ++ R := hx
      rw [htk, lastOf_snoc]
      rcases (hm x).1 hx' with e | e | e
      · have hne : ¬ h.key = x.key := fun ek => by
          have := cnt_mem e
          rw [← ek, cnt_del_self] at this
          have := hnd h.key
          omega
        rw [if_neg hne]
        exact H.mem x (List.mem_append_left _ (del_mem e))
      · have hne : ¬ h.key = x.key := fun ek => by
          have := cnt_mem e
          rw [← ek, cnt_del_self] at this
          have := hnd h.key
          omega
        rw [if_neg hne]
        exact H.mem x (List.mem_append_right _ (del_mem e))
      · subst e
        rw [if_pos rfl]
    · show T.length + R.length = _
      rw [hl, hfc]
      have h1 := hnd h.key
      have a1 := del_len_has (k := h.key) (l := S.trial) (by omega)
      have a2 := del_len_has (k := h.key) (l := S.rest) (by omega)
      have hc0 := H.cnt h.key
      have hlen := H.len
      unfold CS.len at hlen
      by_cases e : Proofs.Ytjijdpdbkpknpaa.cnt h.key (hs.take i) = 0
      · rw [if_pos e] at hc0 ⊢
        omega
      · rw [if_neg e] at hc0 ⊢
        omega
  unfold putS
  rw [if_neg hb]
  by_cases hr : has h.key S.rest = true
  · rw [if_pos hr]
    have hd : shrinkT S.budget (del h.key S.rest ++ [h]) (del h.key S.trial) = (del h.key S.trial, del h.key S.rest ++ [h], []) := shrinkT_done (by rw [H.bud, sumC_append]; omega)
    rw [hd]
    refine ⟨rfl, key (del h.key S.trial) (del h.key S.rest ++ [h]) (fun x => ?_) (fun k => ?_) ?_ ?_⟩
    · simp only [List.mem_append, List.mem_singleton, or_assoc]
    · rw [cnt_append]; omega
    · rw [sumC_append]; omega
    · rw [List.length_append, List.length_singleton]; omega
  · rw [if_neg hr]
    have hd : shrinkT S.budget (del h.key S.rest) (del h.key S.trial ++ [h]) = (del h.key S.trial ++ [h], del h.key S.rest, []) := shrinkT_done (by rw [H.bud, sumC_append]; omega)
    rw [hd]
    refine ⟨rfl, key (del h.key S.trial ++ [h]) (del h.key S.rest) (fun x => ?_) (fun k => ?_) ?_ ?_⟩
    · simp only [List.mem_append, List.mem_singleton]
      constructor
      · rintro ((a | a) | a)
        · exact .inl a
        · exact .inr (.inr a)
        · exact .inr (.inl a)
      · rintro (a | a | a)
        · exact .inl (.inl a)
        · exact .inr a
        · exact .inl (.inr a)
    · rw [cnt_append]; omega
    · rw [sumC_append]; omega
    · rw [List.length_append, List.length_singleton]; omega
/-- what Peek gives -/
theorem OnceOk.peek {hs : List Hd} {i : Nat} {S : CS} (H : OnceOk hs i S) {k : ByteArray} (hk : Proofs.Ytjijdpdbkpknpaa.cnt k (hs.take i) ≠ 0) : ∃ x, peekS S k = some x ∧ lastOf k (hs.take i) = some x := by
  have hc := H.cnt k
  rw [if_neg hk] at hc
  unfold peekS
  by_cases ht : has k S.trial = true
  · rw [if_pos ht]
    obtain ⟨x, hx⟩ := Option.isSome_iff_exists.1 (getK_some ht)
    refine ⟨x, hx, ?_⟩
    have := H.mem x (List.mem_append_left _ (getK_mem hx))
    rwa [(cnt_getK hx).1] at this
  · rw [if_neg ht]
    have ht' : has k S.trial = false := by simpa using ht
    have := has_zero.1 ht'
    have hr : has k S.rest = true := cnt_pos.2 (by omega)
    obtain ⟨x, hx⟩ := Option.isSome_iff_exists.1 (getK_some hr)
    refine ⟨x, hx, ?_⟩
    have := H.mem x (List.mem_append_right _ (getK_mem hx))
    rwa [(cnt_getK hx).1] at this
/-- let go twice: it isn't there; the others stay -/
theorem drop_two (S : CS) (k : ByteArray) (hn : S.nd) : peekS (dropS S [k, k]).1 k = none ∧ (∀ k', cnt k' (dropS S [k, k]).1.trial + cnt k' (dropS S [k, k]).1.rest = if k' = k then 0 else cnt k' S.trial + cnt k' S.rest) ∧ (dropS S [k, k]).1.nd := by
  have e : (dropS S [k, k]).1 = { S with trial := del k (del k S.trial), rest := del k (del k S.rest) } := rfl
  have hc : ∀ k', cnt k' (dropS S [k, k]).1.trial + cnt k' (dropS S [k, k]).1.rest = if k' = k then 0 else cnt k' S.trial + cnt k' S.rest := fun k' => by
    rw [e]
    show cnt k' (del k (del k S.trial)) + cnt k' (del k (del k S.rest)) = _
    by_cases h : k' = k
    · subst h
      rw [if_pos rfl, cnt_del_self, cnt_del_self, cnt_del_self, cnt_del_self]
      have := hn k'
      omega
    · rw [if_neg h, cnt_del_other h, cnt_del_other h, cnt_del_other h, cnt_del_other h]
  refine ⟨?_, hc, fun k' => by rw [hc k']; have := hn k'; split <;> omega⟩
  have := hc k
  rw [if_pos rfl] at this
  have h1 : has k (dropS S [k, k]).1.trial = false := has_zero.2 (by omega)
  have h2 : has k (dropS S [k, k]).1.rest = false := has_zero.2 (by omega)
  unfold peekS
  rw [if_neg (by rw [h1]; simp), getK_no h2]
end Go.Proofs.Ytjijdpdbkpknpaa
