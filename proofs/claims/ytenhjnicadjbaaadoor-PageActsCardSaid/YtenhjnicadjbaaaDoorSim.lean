/-
  The device's state and the reference's go alike: plain lists, no program in sight. Conditions: each theorem's own.
-/
import Derived.Test.YtenhjnicadjbaaaDoorRefWrite
import Derived.Test.YtenhjnicadjbaaaDoorDevWrite
namespace Go.Proofs.YtenhjnicadjbaaaDoor
open Go Go.RowKit

structure Sim (S : DS) (R : RS) : Prop where
  n : S.n = R.n
  bad : S.bad = R.bad
  left : S.left = -1
  kept : S.kept = R.safe
  q : S.q = R.wait
  now : S.now = nowR R

theorem sim_len {S : DS} {R : RS} (h : Sim S R) : S.kept.length = R.safe.length := by rw [h.kept]
theorem sim_code {S : DS} {R : RS} (h : Sim S R) : codeN S = codeR R := by
  unfold codeN codeR
  rw [h.left, if_neg (by decide), h.n, h.bad]
theorem sim_there {S : DS} {R : RS} (h : Sim S R) (a n : Int) : thereB S a n = thereR R a n := by
  unfold thereB thereR
  rw [sim_len h]
theorem sim_step {S : DS} {R : RS} (h : Sim S R) : Sim (stepN S) (stepR R) := by
  unfold stepN stepR
  rw [if_neg (by rw [h.left]; decide)]
  exact ⟨by show S.n + 1 = _; rw [h.n], h.bad, by show max (S.left - 1) (-1) = -1; rw [h.left]; rfl, h.kept, h.q, h.now⟩
theorem sim_new (n : Nat) : Sim (newS n) (newR n) := by
  refine ⟨rfl, rfl, rfl, rfl, rfl, ?_⟩
  show List.replicate n zero64 = _
  apply List.ext_getElem?
  intro j
  by_cases hj : j < n
  · rw [nowR_get (newR n) (by show j < (List.replicate n zero64).length; rw [List.length_replicate]; exact hj), List.getElem?_replicate_of_lt hj]
    show _ = some ((List.replicate n zero64).getD j [])
    rw [List.getD_eq_getElem?_getD, List.getElem?_replicate_of_lt hj]
    rfl
  · rw [List.getElem?_eq_none (by rw [List.length_replicate]; omega), List.getElem?_eq_none (by rw [nowR_len]; show (List.replicate n zero64).length ≤ j; rw [List.length_replicate]; omega)]

theorem seeL_push (R : RS) (a i : Nat) (s : List UInt8) : seeL { R with wait := R.wait ++ [(a, s)] } i = if a = i then s else seeL R i := by
  unfold seeL
  show seeQ i (R.wait ++ [(a, s)]) (R.safe.getD i []) = _
  rw [seeQ_append]
  rfl
theorem nowR_push (R : RS) (a : Nat) (s : List UInt8) : nowR { R with wait := R.wait ++ [(a, s)] } = (nowR R).set a s := by
  apply List.ext_getElem?
  intro j
  by_cases hj : j < R.safe.length
  · have h1 := nowR_get { R with wait := R.wait ++ [(a, s)] } (i := j) hj
    rw [seeL_push] at h1
    rw [h1, List.getElem?_set, nowR_get R hj, nowR_len]
    by_cases h : a = j
    · subst h
      rw [if_pos rfl, if_pos rfl, if_pos hj]
    · rw [if_neg h, if_neg h]
  · rw [List.getElem?_eq_none (by rw [nowR_len]; exact Nat.le_of_not_lt hj), List.getElem?_eq_none (by rw [List.length_set, nowR_len]; exact Nat.le_of_not_lt hj)]
theorem sim_writes : ∀ (ls : List (List UInt8)) (S : DS) (R : RS) (a : Nat), Sim S R → Sim (writeS S a ls) (writeW R a ls)
  | [], _, _, _, h => h
  | s :: r, S, R, a, h => sim_writes r _ _ (a + 1) ⟨h.n, h.bad, h.left, h.kept, by show S.q ++ [(a, s)] = _; rw [h.q], by
      show S.now.set a s = _
      rw [nowR_push, h.now]⟩
theorem sim_write {S : DS} {R : RS} (h : Sim S R) (at_ : Int) (ls : List (List UInt8)) : writeCode S at_ ls = writeCodeR R at_ ls ∧ Sim (writeTo S at_ ls) (writeToR R at_ ls) := by
  unfold writeCode writeCodeR writeTo writeToR
  rw [sim_there h, sim_code h]
  refine ⟨rfl, ?_⟩
  by_cases ht : thereR R at_ ls.length = true
  · rw [if_pos ht, if_pos ht]
    by_cases hc : codeR R = 0
    · rw [if_pos hc, if_pos hc]
      exact sim_writes ls _ _ _ (sim_step h)
    · rw [if_neg hc, if_neg hc]
      exact sim_step h
  · rw [if_neg ht, if_neg ht]
    exact h
theorem sim_read {S : DS} {R : RS} (h : Sim S R) (at_ n : Int) : readCode S at_ n = readCodeR R at_ n ∧ readL S at_ n = readLR R at_ n ∧ Sim (readS S at_ n) (readRS R at_ n) := by
  have hc : readCode S at_ n = readCodeR R at_ n := by
    unfold readCode readCodeR
    rw [sim_there h, sim_code h]
  refine ⟨hc, ?_, ?_⟩
  · unfold readL readLR
    rw [hc, h.now]
  · unfold readS readRS
    rw [sim_there h]
    by_cases ht : thereR R at_ n = true
    · rw [if_pos ht, if_pos ht]
      exact sim_step h
    · rw [if_neg ht, if_neg ht]
      exact h
theorem flushQ_get (j : Nat) : ∀ (q : List (Nat × List UInt8)) (K : List (List UInt8)), j < K.length → (flushQ q K)[j]? = some (seeQ j q (K.getD j []))
  | [], K, h => by
    show K[j]? = some (K.getD j [])
    rw [List.getD_eq_getElem?_getD, List.getElem?_eq_getElem h]
    rfl
  | e :: r, K, h => by
    show (flushQ r (K.set e.1 e.2))[j]? = some (seeQ j r (if e.1 = j then e.2 else K.getD j []))
    rw [flushQ_get j r _ (by rw [List.length_set]; exact h)]
    congr 2
    rw [List.getD_eq_getElem?_getD, List.getElem?_set]
    by_cases he : e.1 = j
    · rw [if_pos he, if_pos he, if_pos (by omega)]
      rfl
    · rw [if_neg he, if_neg he, List.getD_eq_getElem?_getD]
def inQ (j : Nat) (q : List (Nat × List UInt8)) : Bool := q.any fun e => e.1 == j
theorem inQ_cons (j : Nat) (e : Nat × List UInt8) (r : List (Nat × List UInt8)) : inQ j (e :: r) = ((e.1 == j) || inQ j r) := rfl
theorem settleK_all (N : List (List UInt8)) (j : Nat) (hN : j < N.length) : ∀ (q : List (Nat × List UInt8)) (K : List (List UInt8)), j < K.length → (settleK K N q)[j]? = if inQ j q then N[j]? else K[j]?
  | [], _, _ => rfl
  | e :: r, K, h => by
    rw [settleK, settleK_all N j hN r _ (by rw [List.length_set]; exact h), inQ_cons]
    cases hr : inQ j r with
    | true => simp
    | false =>
      rw [if_neg (by simp), List.getElem?_set]
      by_cases he : e.1 = j
      · subst he
        rw [if_pos rfl, if_pos h, if_pos (by simp), List.getD_eq_getElem?_getD, List.getElem?_eq_getElem hN]
        rfl
      · rw [if_neg he, if_neg (by simpa using he)]
theorem inQ_none {j : Nat} {q : List (Nat × List UInt8)} (h : inQ j q = false) : ∀ e ∈ q, e.1 ≠ j := fun e he hj => by
  unfold inQ at h
  rw [List.any_eq_false] at h
  exact h e he (by simp [hj])
theorem crashK_none (part : Nat) (torn : Int) (keep : List Bool) (j : Nat) : ∀ (q : List (Nat × List UInt8)) (k : Nat) (K : List (List UInt8)), (∀ e ∈ q, e.1 ≠ j) → (crashK part torn keep k K q)[j]? = K[j]?
  | [], _, _, _ => rfl
  | e :: r, k, K, h => by
    rw [crashK, crashK_none part torn keep j r _ _ fun x hx => h x (List.mem_cons_of_mem _ hx)]
    have he := h e List.mem_cons_self
    unfold crashStep
    split
    · rw [List.getElem?_set_ne he]
    · split
      · rw [List.getElem?_set_ne he]
      · rfl
theorem sim_flush {S : DS} {R : RS} (h : Sim S R) : Sim (flushTo S) (flushR R) := by
  unfold flushTo flushR
  rw [sim_code h]
  have hs := sim_step h
  by_cases hc : codeR R = 0
  · rw [if_pos hc, if_pos hc]
    have hl : (nowR R).length = R.safe.length := nowR_len R
    have hk : settleK (stepN S).kept (stepN S).now (stepN S).q = flushQ R.wait R.safe := by
      rw [hs.kept, hs.now, hs.q]
      show settleK R.safe (nowR R) R.wait = _
      apply List.ext_getElem?
      intro j
      by_cases hj : j < R.safe.length
      · rw [settleK_all _ j (by rw [hl]; exact hj) _ _ hj, flushQ_get j _ _ hj]
        cases hq : inQ j R.wait with
        | true =>
          rw [if_pos rfl, nowR_get R hj]
          rfl
        | false =>
          rw [if_neg (by decide), seeQ_none j _ _ (inQ_none hq), List.getD_eq_getElem?_getD, List.getElem?_eq_getElem hj]
          rfl
      · rw [List.getElem?_eq_none (by rw [settleK_len]; omega), List.getElem?_eq_none (by rw [flushQ_len]; omega)]
    refine ⟨hs.n, hs.bad, hs.left, hk, rfl, ?_⟩
    show (stepN S).now = nowR { stepR R with safe := flushQ R.wait R.safe, wait := [] }
    rw [hs.now, nowR_step]
    apply List.ext_getElem?
    intro j
    by_cases hj : j < R.safe.length
    · rw [nowR_get R hj, nowR_get _ (by show j < (flushQ R.wait R.safe).length; rw [flushQ_len]; exact hj)]
      show _ = some ((flushQ R.wait R.safe).getD j [])
      rw [List.getD_eq_getElem?_getD, flushQ_get j _ _ hj]
      rfl
    · rw [List.getElem?_eq_none (by rw [nowR_len]; omega), List.getElem?_eq_none (by rw [nowR_len]; show (flushQ R.wait R.safe).length ≤ j; rw [flushQ_len]; omega)]
  · rw [if_neg hc, if_neg hc]
    exact hs
theorem sim_fail {S : DS} {R : RS} (h : Sim S R) (l : List Int) : Sim { S with n := 0, bad := l } { R with n := 0, bad := l } := ⟨rfl, rfl, h.left, h.kept, h.q, h.now⟩
theorem sim_crash {S : DS} {R : RS} (h : Sim S R) (keep : List Bool) (torn P : Int) : Sim (crashS S keep torn P) (crashR R keep torn P) := by
  have hl : (nowR R).length = R.safe.length := nowR_len R
  refine ⟨rfl, rfl, rfl, ?_, rfl, ?_⟩
  · show crashK _ _ _ _ S.kept S.q = crashK _ _ _ _ R.safe R.wait
    rw [h.kept, h.q]
  · show settleK S.now (crashK (clip P) torn keep 0 S.kept S.q) S.q = _
    rw [h.now, h.kept, h.q]
    apply List.ext_getElem?
    intro j
    by_cases hj : j < R.safe.length
    · have h1 := nowR_get (crashR R keep torn P) (i := j) (by show j < (crashK _ _ _ _ _ _).length; rw [crashK_len]; exact hj)
      rw [settleK_all _ j (by rw [crashK_len]; exact hj) _ _ (by rw [hl]; exact hj), h1]
      show _ = some ((crashK (clip P) torn keep 0 R.safe R.wait).getD j [])
      have hlk : j < (crashK (clip P) torn keep 0 R.safe R.wait).length := by rw [crashK_len]; exact hj
      cases hq : inQ j R.wait with
      | true =>
        rw [if_pos rfl, List.getD_eq_getElem?_getD, List.getElem?_eq_getElem hlk]
        rfl
      | false =>
        rw [if_neg (by decide), nowR_get R hj, List.getD_eq_getElem?_getD, crashK_none _ _ _ j _ _ _ (inQ_none hq), List.getElem?_eq_getElem hj]
        unfold seeL
        rw [seeQ_none j _ _ (inQ_none hq), List.getD_eq_getElem?_getD, List.getElem?_eq_getElem hj]
    · rw [List.getElem?_eq_none (by rw [settleK_len, hl]; omega), List.getElem?_eq_none (by rw [nowR_len]; show (crashK _ _ _ _ _ _).length ≤ j; rw [crashK_len]; omega)]
end Go.Proofs.YtenhjnicadjbaaaDoor
