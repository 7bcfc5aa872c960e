/-
  Plain laws on lru's states: room made, responses kept, where a key is. No program in sight but for the states' words.
-/
import Derived.Test.YtjijdpdbkpknpaaLruAwake
namespace Go.Proofs.Ytjijdpdbkpknpaa
open Go Go.RowKit

theorem costN_ge (h : Hd) : 64 ≤ costN h := by unfold costN; omega
theorem sumC_len : ∀ (l : List Hd), 64 * l.length ≤ sumC l
  | [] => by simp
  | x :: r => by
    have := sumC_len r
    have := costN_ge x
    simp only [sumC, List.map_cons, List.sum_cons, List.length_cons] at *
    omega
theorem sumC_cons (x : Hd) (l : List Hd) : sumC (x :: l) = costN x + sumC l := by simp [sumC]
theorem shrinkT_ok {b : Nat} {r : List Hd} (hr : sumC r ≤ b) : ∀ (t : List Hd), (shrinkT b r t).2.1 = r ∧ sumC (shrinkT b r t).1 + sumC r ≤ b
  | [] => by
    unfold shrinkT
    rw [shrinkR_done hr]
    simp [sumC] at *
    exact hr
  | x :: t => by
    unfold shrinkT
    split
    · exact ⟨rfl, by assumption⟩
    · exact shrinkT_ok hr t
theorem sumC_eraseIdx (l : List Hd) (i : Nat) : sumC (l.eraseIdx i) ≤ sumC l := by
  by_cases h : i < l.length
  · have := sumC_erase l i h; omega
  · rw [List.eraseIdx_of_length_le (by omega)]; omega
theorem sumC_del (k : ByteArray) (l : List Hd) : sumC (del k l) ≤ sumC l := sumC_eraseIdx _ _
theorem atK_lt {k : ByteArray} : ∀ {l : List Hd} {h : Hd}, h ∈ l → h.key = k → atK k l < l.length
  | x :: r, h, hm, he => by
    unfold atK
    split
    · simp
    · rename_i hx
      rcases List.mem_cons.1 hm with e | e
      · subst e; exact absurd he hx
      · have := atK_lt e he
        simp
        exact this
theorem has_mem {k : ByteArray} {l : List Hd} {h : Hd} (hm : h ∈ l) (he : h.key = k) : has k l = true := decide_eq_true (atK_lt hm he)
theorem atK_len {k : ByteArray} : ∀ {l : List Hd}, (∀ h ∈ l, h.key ≠ k) → atK k l = l.length
  | [], _ => rfl
  | x :: r, hn => by
    unfold atK
    rw [if_neg (hn x List.mem_cons_self), atK_len (fun h hh => hn h (List.mem_cons_of_mem _ hh))]
    rfl
theorem has_none {k : ByteArray} {l : List Hd} (hn : ∀ h ∈ l, h.key ≠ k) : has k l = false := decide_eq_false (by rw [atK_len hn]; omega)
theorem getK_some {k : ByteArray} {l : List Hd} (h : has k l = true) : (getK k l).isSome = true := by
  unfold getK
  rw [List.getElem?_eq_getElem (of_decide_eq_true h)]
  rfl
theorem peekS_rest {S : CS} {k : ByteArray} {h : Hd} (hm : h ∈ S.rest) (he : h.key = k) : (peekS S k).isSome = true := by
  unfold peekS
  split
  · rename_i h1
    exact getK_some h1
  · exact getK_some (has_mem hm he)

/-! LruScans -/
def kL (i : Nat) : ByteArray := strOf [UInt8.ofNat (97 + i)]
def kX (i : Nat) : ByteArray := strOf [120, UInt8.ofNat i]
def restK (k : Nat) : List Hd := (List.range k).map fun j => heldHd (kL j) 35
def scS (k : Nat) : CS := ⟨1000, 600, [], restK k⟩
theorem sc_step (i : Nat) (hi : i < 6) : (getS (putS (scS i) (heldHd (kL i) 35)).1 (kL i)).1 = scS (i + 1) ∧ (getS (putS (scS i) (heldHd (kL i) 35)).1 (kL i)).2.isSome = true ∧ (putS (scS i) (heldHd (kL i) 35)).1.trial.length + (putS (scS i) (heldHd (kL i) 35)).1.rest.length < 1000 := by
  match i, hi with
  | 0, _ => exact ⟨by kernel_rfl, by kernel_rfl, of_decide_eq_true (by kernel_rfl)⟩
  | 1, _ => exact ⟨by kernel_rfl, by kernel_rfl, of_decide_eq_true (by kernel_rfl)⟩
  | 2, _ => exact ⟨by kernel_rfl, by kernel_rfl, of_decide_eq_true (by kernel_rfl)⟩
  | 3, _ => exact ⟨by kernel_rfl, by kernel_rfl, of_decide_eq_true (by kernel_rfl)⟩
  | 4, _ => exact ⟨by kernel_rfl, by kernel_rfl, of_decide_eq_true (by kernel_rfl)⟩
  | 5, _ => exact ⟨by kernel_rfl, by kernel_rfl, of_decide_eq_true (by kernel_rfl)⟩
theorem restK_len (k : Nat) : (restK k).length = k := by simp [restK]
theorem kL_size (i : Nat) : (kL i).size = 1 := rfl
theorem kX_size (i : Nat) : (kX i).size = 2 := rfl
theorem restK_cost (k : Nat) : sumC (restK k) = 100 * k := by
  have h : ∀ (l : List Nat), sumC (l.map fun j => heldHd (kL j) 35) = 100 * l.length := by
    intro l
    induction l with
    | nil => rfl
    | cons a r ih =>
      rw [List.map_cons, sumC_cons, ih, List.length_cons]
      have : costN (heldHd (kL a) 35) = 100 := rfl
      omega
  unfold restK
  rw [h, List.length_range]
theorem restK_key (k j : Nat) (hj : j < k) : heldHd (kL j) 35 ∈ restK k := List.mem_map.2 ⟨j, List.mem_range.2 hj, rfl⟩
/-- a state of the second loop -/
def ScOk (k : Nat) (S : CS) : Prop := ∃ T, S = ⟨1000, 600, T, restK k⟩ ∧ sumC T + sumC (restK k) ≤ 1000
theorem ScOk.step {k : Nat} (hk : k ≤ 6) {S : CS} (h : ScOk k S) (j : Nat) : ScOk k (putS S (heldHd (kX j) 34)).1 := by
  obtain ⟨T, rfl, hT⟩ := h
  have hr : has (kX j) (restK k) = false := has_none fun h hh e => by
    obtain ⟨i, _, rfl⟩ := List.mem_map.1 hh
    have e' : kL i = kX j := e
    have := congrArg ByteArray.size e'
    rw [kL_size, kX_size] at this
    omega
  have hc : ¬ (1000 : Nat) < costN (heldHd (kX j) 34) := by
    have : costN (heldHd (kX j) 34) = 100 := rfl
    omega
  have hrc := restK_cost k
  unfold putS
  rw [if_neg hc, if_neg (show ¬ has (heldHd (kX j) 34).key (restK k) = true by rw [show has (heldHd (kX j) 34).key (restK k) = false from hr]; simp)]
  have hd : del (heldHd (kX j) 34).key (restK k) = restK k := del_no hr
  obtain ⟨h1, h2⟩ := shrinkT_ok (b := 1000) (r := restK k) (by omega) (del (heldHd (kX j) 34).key T ++ [heldHd (kX j) 34])
  refine ⟨_, ?_, h2⟩
  show (⟨1000, 600, _, _⟩ : CS) = _
  rw [hd, h1]
theorem ScOk.len {k : Nat} {S : CS} (h : ScOk k S) : S.trial.length + S.rest.length < 1000 := by
  obtain ⟨T, rfl, hT⟩ := h
  have := sumC_len T
  have := sumC_len (restK k)
  show T.length + (restK k).length < 1000
  omega
theorem ScOk.start {k : Nat} (hk : k ≤ 6) : ScOk k (scS k) := ⟨[], rfl, by rw [restK_cost]; simp [sumC]; omega⟩
theorem ScOk.peek {k : Nat} {S : CS} (h : ScOk k S) {j : Nat} (hj : j < k) : (peekS S (kL j)).isSome = true := by
  obtain ⟨T, rfl, hT⟩ := h
  exact peekS_rest (restK_key k j hj) rfl
theorem ScOk.used {k : Nat} {S : CS} (h : ScOk k S) : sumC S.trial + sumC S.rest ≤ 1000 := by
  obtain ⟨T, rfl, hT⟩ := h
  exact hT
end Go.Proofs.Ytjijdpdbkpknpaa
