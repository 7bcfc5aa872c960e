/-
  JournalMany's plain law: what the sectors hold behind each transaction. No walk.
-/
import Derived.Test.YtogjdfiimflbaaaJrOpen
namespace Go.Proofs.Ytogjdfiimflbaaa
open Go Go.RowKit

theorem wsec_split (M : List (List UInt8)) (a : Nat) (l : List (List UInt8)) (k : Nat) (x y : List UInt8) (hl : l.length = k + 1) (hy : l[k]? = some y) (ha : a + l.length ≤ M.length) : wsec (wsec M a (l.take k ++ [x])) (a + k) [y] = wsec M a l := by
  have hlt : (l.take k ++ [x]).length = k + 1 := by rw [List.length_append, List.length_take]; simp; omega
  apply List.ext_getElem?
  intro j
  rw [wsec_get _ _ _ _ (by rw [wsec_len]; simp; omega), wsec_get _ _ _ _ (by rw [hlt]; omega), wsec_get _ _ _ _ ha, hlt, hl]
  by_cases h1 : j = a + k
  · subst h1
    rw [if_pos (by simp), if_pos (by omega), Nat.sub_self, show a + k - a = k by omega, hy]
    rfl
  · rw [if_neg (by simp; omega)]
    by_cases h2 : a ≤ j ∧ j < a + (k + 1)
    · rw [if_pos h2, if_pos h2, List.getElem?_append_left (by rw [List.length_take]; omega), List.getElem?_take_of_lt (by omega)]
    · rw [if_neg h2, if_neg h2]
theorem doneN_eq (J : JS) (N : List (List UInt8)) (ps : List PutL) (h : cmtA J (ps.length + 2) + (ps.length + 2) ≤ N.length) : doneN J N ps = wsec (cmtN J N (ps.length + 2)) (cmtA J (ps.length + 2)) (recL J.next ps) := by
  unfold doneN
  exact wsec_split _ _ _ _ _ _ (recL_len _ _) (recL_last _ _) (by rw [recL_len, cmtN_len]; exact h)
theorem recL_get0 (n : Nat) (ps : List PutL) : (recL n ps)[0]? = some (headL n ps) := rfl
theorem recL_get (n : Nat) (ps : List PutL) (i : Nat) (p : PutL) (h : ps[i]? = some p) : (recL n ps)[1 + i]? = some (bodyL p) := by
  have hi := (List.getElem?_eq_some_iff.1 h).1
  unfold recL
  rw [List.getElem?_append_left (by simp; omega), show 1 + i = i + 1 by omega, List.getElem?_cons_succ, List.getElem?_map, h]
  rfl
theorem recAt_of {ls : List (List UInt8)} {a n : Nat} {ps : List PutL} (h : ∀ j, j < ps.length + 2 → ls[a + j]? = (recL n ps)[j]?) : RecAt ls a n ps :=
  ⟨(h 0 (by omega)).trans (recL_get0 _ _), fun i p hp => by
    have hi := (List.getElem?_eq_some_iff.1 hp).1
    rw [show a + 1 + i = a + (1 + i) by omega, h _ (by omega)]
    exact recL_get n ps i p hp, by
    rw [show a + 1 + ps.length = a + (ps.length + 1) by omega, h _ (by omega)]
    exact recL_last n ps⟩

def wantV (xs : List UInt8) : Nat → Nat → UInt8
  | 0, _ => 0
  | n + 1, k => if n % 8 = k then xs.getD n 0 else wantV xs n k
def putJ (xs : List UInt8) (z i : Nat) : PutL := (z + i % 8, List.replicate 64 (xs.getD i 0))
def putsJ (xs : List UInt8) (z a c : Nat) : List PutL := (List.range' a c).map (putJ xs z)
theorem putsJ_len (xs : List UInt8) (z a c : Nat) : (putsJ xs z a c).length = c := by unfold putsJ; rw [List.length_map, List.length_range']
theorem putsJ_succ (xs : List UInt8) (z a c : Nat) : putsJ xs z a (c + 1) = putsJ xs z a c ++ [putJ xs z (a + c)] := by
  unfold putsJ
  rw [List.range'_1_concat, List.map_append]
  rfl
theorem putsJ_mem {xs : List UInt8} {z a c : Nat} {p : PutL} (h : p ∈ putsJ xs z a c) : ∃ i, p = putJ xs z i := by
  unfold putsJ at h
  obtain ⟨i, _, rfl⟩ := List.mem_map.1 h
  exact ⟨i, rfl⟩
theorem putJ_ok (xs : List UInt8) {z : Nat} (hz : z ≤ 1000) (i : Nat) : PutOk (putJ xs z i) ∧ z ≤ (putJ xs z i).1 ∧ (putJ xs z i).1 < z + 8 := by
  have := Nat.mod_lt i (show 0 < 8 by omega)
  exact ⟨⟨by show z + i % 8 < _; omega, List.length_replicate⟩, by show z ≤ z + i % 8; omega, by show z + i % 8 < _; omega⟩
theorem homeN_low {ps : List PutL} {z j : Nat} (hj : j < z) : ∀ (N : List (List UInt8)), (∀ p ∈ ps, z ≤ p.1 ∧ p.1 < N.length) → (homeN N ps)[j]? = N[j]? := by
  induction ps with
  | nil => exact fun _ _ => rfl
  | cons p r ih =>
    intro N h
    have hp := h p List.mem_cons_self
    rw [homeN, ih _ (fun q hq => by rw [wsec_len]; exact h q (List.mem_cons_of_mem _ hq)), wsec_get _ _ _ _ (by show p.1 + 1 ≤ _; omega), if_neg (by omega)]
theorem homeN_home (xs : List UInt8) (z a : Nat) (N : List (List UInt8)) (hN : N.length = z + 8) (k : Nat) (hk : k < 8) (h : N[z + k]? = some (List.replicate 64 (wantV xs a k))) : ∀ c, (homeN N (putsJ xs z a c))[z + k]? = some (List.replicate 64 (wantV xs (a + c) k))
  | 0 => h
  | c + 1 => by
    have hm := Nat.mod_lt (a + c) (show 0 < 8 by omega)
    rw [putsJ_succ, homeN_snoc, wsec_get _ _ _ _ (by rw [homeN_len]; show z + (a + c) % 8 + 1 ≤ _; omega), show a + (c + 1) = (a + c) + 1 by omega]
    show (if z + (a + c) % 8 ≤ z + k ∧ z + k < z + (a + c) % 8 + 1 then _ else _) = some (List.replicate 64 (if (a + c) % 8 = k then _ else _))
    by_cases h1 : (a + c) % 8 = k
    · rw [if_pos (by omega), if_pos h1, show z + k - (putJ xs z (a + c)).1 = 0 by show z + k - (z + (a + c) % 8) = 0; omega]
      rfl
    · rw [if_neg (by omega), if_neg h1]
      exact homeN_home xs z a N hN k hk h c

/-- the marks of a place: the newest is of these words -/
def MarksOk (N : List (List UInt8)) (z m f a : Nat) : Prop :=
  (m % 2 = 1 ∧ (∃ b1, N[1]? = some b1 ∧ MkOf b1 1 z m f a true) ∧ ∃ b0 m' f' a' x, N[0]? = some b0 ∧ MkOf b0 0 z m' f' a' x ∧ m' < m) ∨
  (m % 2 = 0 ∧ (∃ b0, N[0]? = some b0 ∧ MkOf b0 0 z m f a true) ∧ ∃ b1 m' f' a' x, N[1]? = some b1 ∧ MkOf b1 1 z m' f' a' x ∧ m' < m)
theorem MarksOk.new {N : List (List UInt8)} {z m f a : Nat} (h : MarksOk N z m f a) : ∃ b0 b1 m0 f0 a0 x0 m1 f1 a1 x1, N[0]? = some b0 ∧ N[1]? = some b1 ∧ MkOf b0 0 z m0 f0 a0 x0 ∧ MkOf b1 1 z m1 f1 a1 x1 ∧ newR m0 f0 a0 m1 f1 a1 x0 x1 = (m, f, a, true) := by
  rcases h with ⟨_, ⟨b1, h1, k1⟩, b0, m', f', a', x, h0, k0, hlt⟩ | ⟨_, ⟨b0, h0, k0⟩, b1, m', f', a', x, h1, k1, hlt⟩
  · refine ⟨b0, b1, m', f', a', x, m, f, a, true, h0, h1, k0, k1, ?_⟩
    unfold newR
    rw [decide_eq_false (by omega)]
    cases x <;> rfl
  · refine ⟨b0, b1, m, f, a, true, m', f', a', x, h0, h1, k0, k1, ?_⟩
    unfold newR
    rw [decide_eq_true hlt]
    cases x <;> rfl
theorem MarksOk.keep {N N' : List (List UInt8)} {z m f a : Nat} (h : MarksOk N z m f a) (h0 : N'[0]? = N[0]?) (h1 : N'[1]? = N[1]?) : MarksOk N' z m f a := by
  unfold MarksOk
  rw [h0, h1]
  exact h
theorem MarksOk.tell {N N' : List (List UInt8)} {z m f a f' a' : Nat} (h : MarksOk N z m f a) (hm : m + 1 < 65536) (hf : f' < 65536) (ha : 2 ≤ a' ∧ a' ≤ z) (hN : N'[(m + 1) % 2]? = some (markL (m + 1) f' a')) (ho : ∀ j, j < 2 → j ≠ (m + 1) % 2 → N'[j]? = N[j]?) : MarksOk N' z (m + 1) f' a' := by
  rcases h with ⟨hp, ⟨b1, h1, k1⟩, _⟩ | ⟨hp, ⟨b0, h0, k0⟩, _⟩
  · have e : (m + 1) % 2 = 0 := by omega
    rw [e] at hN ho
    exact .inr ⟨e, ⟨_, hN, .inr ⟨rfl, rfl, hm, hf, by omega, e, ha⟩⟩, b1, m, f, a, true, (ho 1 (by omega) (by omega)).trans h1, k1, by omega⟩
  · have e : (m + 1) % 2 = 1 := by omega
    rw [e] at hN ho
    exact .inl ⟨e, ⟨_, hN, .inr ⟨rfl, rfl, hm, hf, by omega, e, ha⟩⟩, b0, m, f, a, true, (ho 0 (by omega) (by omega)).trans h0, k0, by omega⟩
/-- no record of a number from n on begins there -/
def OldSec (N : List (List UInt8)) (j n : Nat) : Prop := ∃ b, N[j]? = some b ∧ (b = zero64 ∨ ∃ x ps, x < n ∧ ps.length ≤ 10 ∧ b = headL x ps)
theorem OldSec.mono {N : List (List UInt8)} {j n n' : Nat} (h : OldSec N j n) (hn : n ≤ n') : OldSec N j n' := by
  obtain ⟨b, h1, h2 | ⟨x, ps, h2, h3, h4⟩⟩ := h
  · exact ⟨b, h1, .inl h2⟩
  · exact ⟨b, h1, .inr ⟨x, ps, by omega, h3, h4⟩⟩
theorem OldSec.no {N : List (List UInt8)} {j n z : Nat} (h : OldSec N j n) (hj : j < z) (hn : n < 65536) : NoRec (N.take z) j n := by
  obtain ⟨b, h1, rfl | ⟨x, ps, h2, h3, rfl⟩⟩ := h
  · exact .inr ⟨zero64, by rw [List.getElem?_take_of_lt hj]; exact h1, rfl, 0, rfl, .inl (by decide)⟩
  · exact .inr ⟨_, by rw [List.getElem?_take_of_lt hj]; exact h1, headL_len x h3, 72, headL_0 x ps, .inr ⟨x, by omega, headL_1 x ps, by omega⟩⟩
end Go.Proofs.Ytogjdfiimflbaaa
