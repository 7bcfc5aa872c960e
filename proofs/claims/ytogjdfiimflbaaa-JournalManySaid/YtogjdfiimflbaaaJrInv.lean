/-
  JournalMany's plain law: each transaction keeps it; what Open finds behind it. No walk.
-/
import Derived.Test.YtogjdfiimflbaaaJrLaw
namespace Go.Proofs.Ytogjdfiimflbaaa
open Go Go.RowKit

structure Inv (xs : List UInt8) (z i : Nat) (N : List (List UInt8)) (J : JS) : Prop where
  len : N.length = z + 8
  jz : J.z = z
  next : J.next = i + 1
  f1 : 1 ≤ J.f
  cnt : J.f + J.count = i + 1
  cs : J.count ≤ (z - 2) / 3
  pos : J.pos = 2 + 3 * J.count
  owed : J.owed = putsJ xs z (J.f - 1) J.count
  base : J.count = 0 ∨ J.base = 2
  m1 : 1 ≤ J.m
  mf : J.m ≤ J.f
  start : J.a = 2 ∨ (J.a = 2 + 3 * ((z - 2) / 3) ∧ 0 < J.count)
  home : ∀ k, k < 8 → N[z + k]? = some (List.replicate 64 (wantV xs (J.f - 1) k))
  recs : ∀ t, t < J.count → ∀ j, j < 3 → N[2 + 3 * t + j]? = (recL (J.f + t) [putJ xs z (J.f - 1 + t)])[j]?
  old : ∀ t, J.count ≤ t → t < (z - 2) / 3 → OldSec N (2 + 3 * t) J.f
  rest : ∀ j, 2 + 3 * ((z - 2) / 3) ≤ j → j < z → N[j]? = some zero64
  marks : MarksOk N z J.m J.f J.a
section
variable {xs : List UInt8} {z i : Nat} {N : List (List UInt8)} {J : JS}
theorem Inv.fit (h : Inv xs z i N J) (hz : z ≤ 1000) (hi : i < 1000) : Fit J N := by
  have h1 := h.cs
  have h2 := h.cnt
  have h3 := h.mf
  have h4 := h.next
  have h5 := h.pos
  have h6 := h.len
  refine ⟨fun p hp => ?_, by omega, by omega, by omega, by omega, by rw [h.owed, putsJ_len]; omega⟩
  rw [h.owed] at hp
  obtain ⟨k, rfl⟩ := putsJ_mem hp
  have := putJ_ok xs hz k
  exact ⟨this.1, by omega⟩
theorem one_get (n : Nat) (p : PutL) : (recL n [p]).length = 3 := recL_len _ _
/-- room without a Settle -/
theorem Inv.roomA (h : Inv xs z i N J) (hc : J.count < (z - 2) / 3) : roomR J 3 = (J.pos, true) := by
  unfold roomR
  rw [h.pos, h.jz, if_pos (by omega)]
/-- no room -/
theorem Inv.roomB (h : Inv xs z i N J) (hz : 5 ≤ z) (hc : J.count = (z - 2) / 3) : (roomR J 3).2 = false ∧ roomR (setJ J) 3 = (2, true) := by
  have h1 : ¬ J.pos + 3 ≤ J.z := by rw [h.pos, h.jz]; omega
  have h2 : ¬ J.count = 0 := by omega
  have h3 : J.base = 2 := h.base.resolve_left h2
  constructor
  · unfold roomR
    rw [if_neg h1, if_neg h2, h3]
    rfl
  · have h4 : ¬ (setJ J).pos + 3 ≤ (setJ J).z := h1
    have h5 : (setJ J).count = 0 := rfl
    unfold roomR
    rw [if_neg h4, if_pos h5]
theorem Inv.cmtA_eq (h : Inv xs z i N J) (hc : J.count < (z - 2) / 3) : cmtJ J 3 = J ∧ cmtN J N 3 = N ∧ cmtA J 3 = J.pos := by
  have hr := h.roomA hc
  have e : cmtJ J 3 = J := by unfold cmtJ; rw [hr]; rfl
  exact ⟨e, by unfold cmtN; rw [hr]; rfl, by unfold cmtA; rw [e, hr]⟩
theorem Inv.cmtB_eq (h : Inv xs z i N J) (hz : 5 ≤ z) (hc : J.count = (z - 2) / 3) : cmtJ J 3 = setJ J ∧ cmtN J N 3 = settleN J N ∧ cmtA J 3 = 2 := by
  obtain ⟨hr, hr2⟩ := h.roomB hz hc
  have e : cmtJ J 3 = setJ J := by unfold cmtJ; rw [hr]; rfl
  exact ⟨e, by unfold cmtN; rw [hr]; rfl, by unfold cmtA; rw [e, hr2]⟩
theorem Inv.ok (h : Inv xs z i N J) (hz5 : 5 ≤ z) (hz : z ≤ 100) (hi : i < 100) : CmtOk J N [putJ xs z i] := by
  have h1 := h.cs
  have h2 := h.cnt
  have h3 := h.pos
  have h4 := h.next
  have h5 := h.len
  have h6 := h.jz
  have hp := putJ_ok xs (show z ≤ 1000 by omega) i
  have base : ∀ (e1 : (roomR J 3).2 = true ∨ (Fit J N ∧ 0 < J.count)) (e2 : (cmtJ J 3).count = 0 ∨ (cmtJ J 3).pos ≤ cmtA J 3) (e3 : cmtA J 3 + 3 ≤ N.length) (e4 : (cmtJ J 3).count < 65535), CmtOk J N [putJ xs z i] := fun e1 e2 e3 e4 =>
    ⟨Nat.le_refl 1, (by show 1 ≤ 10; omega), fun p hm => by rw [List.mem_singleton.1 hm]; exact ⟨hp.1, by omega, by omega⟩, by rw [h6]; show 1 + 4 ≤ z; omega, by omega, by omega, by omega, by rw [h.owed, putsJ_len]; omega, e1, e2, e3, e4⟩
  rcases Nat.lt_or_ge J.count ((z - 2) / 3) with hc | hc
  · obtain ⟨eJ, eN, eA⟩ := h.cmtA_eq hc
    refine base (.inl (by rw [h.roomA hc])) (.inr (by rw [eJ, eA]; exact Nat.le_refl _)) (by rw [eA, h5, h3]; omega) (by rw [eJ]; omega)
  · have hc : J.count = (z - 2) / 3 := by omega
    obtain ⟨eJ, eN, eA⟩ := h.cmtB_eq hz5 hc
    refine base (.inr ⟨h.fit (by omega) (by omega), by omega⟩) (.inl (by rw [eJ]; rfl)) (by rw [eA, h5]; omega) (by rw [eJ]; show 0 < 65535; omega)
theorem done_get {M : List (List UInt8)} {a n : Nat} {p : PutL} (h : a + 3 ≤ M.length) (j : Nat) : (wsec M a (recL n [p]))[j]? = if a ≤ j ∧ j < a + 3 then (recL n [p])[j - a]? else M[j]? := by
  rw [wsec_get _ _ _ _ (by rw [one_get]; exact h), one_get]
theorem OldSec.same {N' : List (List UInt8)} {j n : Nat} (h : OldSec N j n) (e : N'[j]? = N[j]?) : OldSec N' j n := by
  unfold OldSec
  rw [e]
  exact h
theorem Inv.stepA (h : Inv xs z i N J) (hz5 : 5 ≤ z) (hc : J.count < (z - 2) / 3) : Inv xs z (i + 1) (doneN J N [putJ xs z i]) (doneJ J [putJ xs z i]) := by
  obtain ⟨eJ, eN, eA⟩ := h.cmtA_eq hc
  have hlen := h.len
  have hpos := h.pos
  have hf1 := h.f1
  have hcnt := h.cnt
  have hdn : doneN J N [putJ xs z i] = wsec N J.pos (recL J.next [putJ xs z i]) := by
    rw [doneN_eq J N [putJ xs z i] (by show cmtA J 3 + 3 ≤ _; rw [eA]; omega)]
    show wsec (cmtN J N 3) (cmtA J 3) _ = _
    rw [eN, eA]
  have hget := done_get (M := N) (a := J.pos) (n := J.next) (p := putJ xs z i) (by omega)
  have hdJ : doneJ J [putJ xs z i] = { J with base := bif J.count == 0 then J.pos else J.base, pos := J.pos + 3, owed := J.owed ++ [putJ xs z i], next := J.next + 1, count := J.count + 1 } := by
    unfold doneJ
    show ({ cmtJ J 3 with base := bif (cmtJ J 3).count == 0 then cmtA J 3 else (cmtJ J 3).base, pos := cmtA J 3 + 3, owed := (cmtJ J 3).owed ++ [putJ xs z i], next := J.next + 1, count := (cmtJ J 3).count + 1 } : JS) = _
    rw [eJ, eA]
  rw [hdn, hdJ]
  have hi : J.f - 1 + J.count = i := by omega
  refine ⟨by rw [wsec_len]; exact hlen, h.jz, by show J.next + 1 = _; rw [h.next], hf1, by show J.f + (J.count + 1) = _; omega, by show J.count + 1 ≤ _; omega, by show J.pos + 3 = 2 + 3 * (J.count + 1); omega, ?_, ?_, h.m1, h.mf, ?_, fun k hk => ?_, fun t ht j hj => ?_, fun t ht1 ht2 => ?_, fun j hj1 hj2 => ?_, ?_⟩
  · show J.owed ++ [putJ xs z i] = putsJ xs z (J.f - 1) (J.count + 1)
    rw [putsJ_succ, h.owed, hi]
  · refine .inr ?_
    show (bif J.count == 0 then J.pos else J.base) = 2
    by_cases h0 : J.count = 0
    · rw [h0]
      show J.pos = 2
      omega
    · rw [show (J.count == 0) = false from beq_eq_false_iff_ne.2 h0]
      exact h.base.resolve_left h0
  · rcases h.start with e | ⟨e, _⟩
    · exact .inl e
    · exact .inr ⟨e, Nat.succ_pos _⟩
  · rw [hget, if_neg (by omega)]
    exact h.home k hk
  · have ht : t < J.count + 1 := ht
    rw [hget]
    by_cases hl : t < J.count
    · rw [if_neg (by omega)]
      exact h.recs t hl j hj
    · obtain rfl : t = J.count := by omega
      rw [if_pos (by omega), show 2 + 3 * J.count + j - J.pos = j by omega, hi, show J.f + J.count = J.next by rw [h.next]; omega]
  · have ht1 : J.count + 1 ≤ t := ht1
    exact (h.old t (by omega) ht2).same (by rw [hget, if_neg (by omega)])
  · rw [hget, if_neg (by omega)]
    exact h.rest j hj1 hj2
  · exact h.marks.keep (by rw [hget, if_neg (by omega)]) (by rw [hget, if_neg (by omega)])
theorem Inv.settled (h : Inv xs z i N J) (hz5 : 5 ≤ z) : ∀ j, (settleN J N)[j]? = if j = (J.m + 1) % 2 then some (markL (J.m + 1) J.next J.pos) else (homeN N J.owed)[j]? := fun j => by
  have hlen := h.len
  unfold settleN
  rw [wsec_get _ _ _ _ (by rw [homeN_len]; show (J.m + 1) % 2 + 1 ≤ _; omega)]
  show (if (J.m + 1) % 2 ≤ j ∧ j < (J.m + 1) % 2 + 1 then _ else _) = _
  by_cases hj : j = (J.m + 1) % 2
  · rw [if_pos (by omega), if_pos hj, show j - (J.m + 1) % 2 = 0 by omega]
    rfl
  · rw [if_neg (by omega), if_neg hj]
theorem Inv.home_low (h : Inv xs z i N J) (hz : z ≤ 1000) (j : Nat) (hj : j < z) : (homeN N J.owed)[j]? = N[j]? :=
  homeN_low hj N (fun p hp => by
    rw [h.owed] at hp
    obtain ⟨k, rfl⟩ := putsJ_mem hp
    have := putJ_ok xs hz k
    rw [h.len]
    exact this.2)
theorem Inv.home_top (h : Inv xs z i N J) (k : Nat) (hk : k < 8) : (homeN N J.owed)[z + k]? = some (List.replicate 64 (wantV xs i k)) := by
  have := homeN_home xs z (J.f - 1) N h.len k hk (h.home k hk) J.count
  have e : J.f - 1 + J.count = i := by have := h.f1; have := h.cnt; omega
  rw [e] at this
  rw [h.owed]
  exact this
theorem Inv.stepB (h : Inv xs z i N J) (hz5 : 5 ≤ z) (hz : z ≤ 100) (hi : i < 100) (hc : J.count = (z - 2) / 3) : Inv xs z (i + 1) (doneN J N [putJ xs z i]) (doneJ J [putJ xs z i]) := by
  obtain ⟨eJ, eN, eA⟩ := h.cmtB_eq hz5 hc
  have hlen := h.len
  have hpos := h.pos
  have hf1 := h.f1
  have hcnt := h.cnt
  have hnx := h.next
  have hmf := h.mf
  have hsl := settleN_len J N
  have hdn : doneN J N [putJ xs z i] = wsec (settleN J N) 2 (recL J.next [putJ xs z i]) := by
    rw [doneN_eq J N [putJ xs z i] (by show cmtA J 3 + 3 ≤ _; rw [eA]; omega)]
    show wsec (cmtN J N 3) (cmtA J 3) _ = _
    rw [eN, eA]
  have hget := done_get (M := settleN J N) (a := 2) (n := J.next) (p := putJ xs z i) (by omega)
  have hset := h.settled hz5
  have hlow := h.home_low (by omega)
  have hdJ : doneJ J [putJ xs z i] = { z := J.z, m := bif decide (0 < J.count) then J.m + 1 else J.m, f := bif decide (0 < J.count) then J.next else J.f, a := bif decide (0 < J.count) then J.pos else J.a, next := J.next + 1, pos := 2 + 3, base := 2, count := 0 + 1, owed := [] ++ [putJ xs z i] } := by
    unfold doneJ
    show ({ cmtJ J 3 with base := bif (cmtJ J 3).count == 0 then cmtA J 3 else (cmtJ J 3).base, pos := cmtA J 3 + 3, owed := (cmtJ J 3).owed ++ [putJ xs z i], next := J.next + 1, count := (cmtJ J 3).count + 1 } : JS) = _
    rw [eJ, eA]
    rfl
  have hc0 : 0 < J.count := by omega
  rw [decide_eq_true hc0] at hdJ
  rw [hdn, hdJ]
  refine ⟨by rw [wsec_len, hsl]; exact hlen, h.jz, by show J.next + 1 = _; rw [hnx], by show 1 ≤ J.next; omega, by show J.next + (0 + 1) = _; omega, by show 0 + 1 ≤ _; omega, rfl, ?_, .inr rfl, by show 1 ≤ J.m + 1; omega, by show J.m + 1 ≤ J.next; omega, ?_, fun k hk => ?_, fun t ht j hj => ?_, fun t ht1 ht2 => ?_, fun j hj1 hj2 => ?_, ?_⟩
  · show [] ++ [putJ xs z i] = putsJ xs z (J.next - 1) (0 + 1)
    rw [putsJ_succ, show J.next - 1 + 0 = i by omega]
    rfl
  · exact .inr ⟨by show J.pos = _; rw [hpos, hc], Nat.succ_pos _⟩
  · show _ = some (List.replicate 64 (wantV xs (J.next - 1) k))
    rw [hget, if_neg (by omega), hset, if_neg (by omega), h.home_top k hk, show J.next - 1 = i by omega]
  · have ht : t < 0 + 1 := ht
    obtain rfl : t = 0 := by omega
    show _ = (recL (J.next + 0) [putJ xs z (J.next - 1 + 0)])[j]?
    rw [hget, if_pos (by omega), show 2 + 3 * 0 + j - 2 = j by omega, show J.next + 0 = J.next by omega, show J.next - 1 + 0 = i by omega]
  · have ht1 : 0 + 1 ≤ t := ht1
    have e : (wsec (settleN J N) 2 (recL J.next [putJ xs z i]))[2 + 3 * t]? = N[2 + 3 * t]? := by
      rw [hget, if_neg (by omega), hset, if_neg (by omega), hlow _ (by omega)]
    have hr := h.recs t (by omega) 0 (by omega)
    refine ⟨headL (J.f + t) [putJ xs z (J.f - 1 + t)], by rw [e]; exact hr, .inr ⟨J.f + t, _, ?_, (by show 1 ≤ 10; omega), rfl⟩⟩
    show J.f + t < J.next
    omega
  · rw [hget, if_neg (by omega), hset, if_neg (by omega), hlow _ hj2]
    exact h.rest j hj1 hj2
  · show MarksOk _ z (J.m + 1) J.next J.pos
    refine h.marks.tell (by omega) (by omega) (by omega) ?_ (fun j hj hne => ?_)
    · rw [hget, if_neg (by omega), hset, if_pos rfl]
    · rw [hget, if_neg (by omega), hset, if_neg hne, hlow j (by omega)]
theorem Inv.step (h : Inv xs z i N J) (hz5 : 5 ≤ z) (hz : z ≤ 100) (hi : i < 100) : Inv xs z (i + 1) (doneN J N [putJ xs z i]) (doneJ J [putJ xs z i]) := by
  rcases Nat.lt_or_ge J.count ((z - 2) / 3) with hc | hc
  · exact h.stepA hz5 hc
  · exact h.stepB hz5 hz hi (Nat.le_antisymm h.cs hc)
/-- the records that lie there -/
def recsJ (xs : List UInt8) (z a c : Nat) : List (List PutL) := (putsJ xs z a c).map fun p => [p]
theorem recsJ_flat (xs : List UInt8) (z a c : Nat) : (recsJ xs z a c).flatten = putsJ xs z a c := by
  unfold recsJ
  induction putsJ xs z a c with
  | nil => rfl
  | cons p r ih => rw [List.map_cons, List.flatten_cons, ih]; rfl
theorem recsJ_len (xs : List UInt8) (z a c : Nat) : (recsJ xs z a c).length = c := by unfold recsJ; rw [List.length_map, putsJ_len]
theorem recsJ_cons (xs : List UInt8) (z a c : Nat) : recsJ xs z a (c + 1) = [putJ xs z a] :: recsJ xs z (a + 1) c := by
  unfold recsJ putsJ
  rw [List.range'_succ]
  rfl
theorem Inv.rec_at (h : Inv xs z i N J) (t : Nat) (ht : t < J.count) : RecAt (N.take z) (2 + 3 * t) (J.f + t) [putJ xs z (J.f - 1 + t)] := by
  have hcs := h.cs
  refine recAt_of (fun j hj => ?_)
  have hj : j < 3 := hj
  rw [List.getElem?_take_of_lt (by omega)]
  exact h.recs t ht j hj
theorem Inv.no_at (h : Inv xs z i N J) (hz5 : 5 ≤ z) (hi : i < 1000) : NoRec (N.take z) J.pos J.next := by
  have hcs := h.cs
  have hpos := h.pos
  have hlen := h.len
  have hcnt := h.cnt
  have hnx := h.next
  rcases Nat.lt_or_ge J.count ((z - 2) / 3) with hc | hc
  · have := (h.old J.count (Nat.le_refl _) hc).mono (n' := J.next) (by omega)
    rw [← hpos] at this
    exact this.no (by omega) (by omega)
  · rcases Nat.lt_or_ge J.pos z with hp | hp
    · have := h.rest J.pos (by omega) hp
      exact OldSec.no ⟨_, this, .inl rfl⟩ hp (by omega)
    · exact .inl (by rw [List.length_take]; omega)
theorem Inv.no_two (h : Inv xs z i N J) (hz5 : 5 ≤ z) (hi : i < 1000) : NoRec (N.take z) 2 J.next := by
  have hcnt := h.cnt
  have hnx := h.next
  rcases Nat.eq_zero_or_pos J.count with hc | hc
  · have := h.no_at hz5 hi
    rw [h.pos, hc] at this
    exact this
  · have hr := h.recs 0 hc 0 (by omega)
    exact OldSec.no ⟨_, hr, .inr ⟨J.f + 0, _, (by omega : J.f + 0 < J.next), (by show 1 ≤ 10; omega), rfl⟩⟩ (by omega) (by omega)
theorem Inv.good (h : Inv xs z i N J) (hz : z ≤ 1000) (k : Nat) : GoodP z N.length [putJ xs z k] := by
  have := putJ_ok xs hz k
  exact ⟨Nat.le_refl 1, (by show 1 ≤ 10; omega), fun p hm => by rw [List.mem_singleton.1 hm, h.len]; exact this⟩
theorem Inv.chain_from (h : Inv xs z i N J) (hz5 : 5 ≤ z) (hz : z ≤ 1000) (hi : i < 1000) : ∀ (c t : Nat), t + c = J.count → Chain (N.take z) z N.length (2 + 3 * t) (J.f + t) (recsJ xs z (J.f - 1 + t) c) J.pos
  | 0, t, e => by
    have hcs := h.cs
    have hpos := h.pos
    have hnx := h.next
    have hcnt := h.cnt
    have e1 : 2 + 3 * t = J.pos := by omega
    have e2 : J.f + t = J.next := by omega
    rw [e1, e2]
    exact ⟨⟨by omega, by omega, .inr ⟨rfl, rfl, h.no_at hz5 hi⟩⟩, ⟨by omega, by omega, .inr ⟨rfl, rfl, h.no_two hz5 hi⟩⟩, rfl⟩
  | c + 1, t, e => by
    have hcs := h.cs
    have ih := h.chain_from hz5 hz hi c (t + 1) (by omega)
    rw [recsJ_cons]
    refine .inl ⟨⟨by omega, by omega, .inl ⟨rfl, h.good hz _, h.rec_at t (by omega)⟩⟩, ?_⟩
    show Chain _ _ _ (2 + 3 * t + 3) _ _ _
    rw [show 2 + 3 * t + 3 = 2 + 3 * (t + 1) by omega]
    exact ih
theorem Inv.chain (h : Inv xs z i N J) (hz5 : 5 ≤ z) (hz : z ≤ 1000) (hi : i < 1000) : Chain (N.take z) z N.length J.a J.f (recsJ xs z (J.f - 1) J.count) J.pos := by
  have h0 := h.chain_from hz5 hz hi J.count 0 (by omega)
  rcases h.start with e | ⟨e, hc⟩
  · rw [e]
    exact h0
  · obtain ⟨c, hcc⟩ : ∃ c, J.count = c + 1 := ⟨J.count - 1, by omega⟩
    have hcnt := h.cnt
    have h1 := h.chain_from hz5 hz hi c 1 (by omega)
    have hno : NoRec (N.take z) J.a J.f := by
      rcases Nat.lt_or_ge J.a z with hp | hp
      · exact OldSec.no ⟨_, h.rest J.a (by omega) hp, .inl rfl⟩ hp (by omega)
      · exact .inl (by rw [List.length_take]; omega)
    have hpos := h.pos
    rw [hcc, recsJ_cons]
    have hr := h.rec_at 0 hc
    have e0 : J.f - 1 + 0 = J.f - 1 := rfl
    rw [e0] at hr
    refine .inr ⟨⟨by omega, by omega, .inr ⟨rfl, rfl, hno⟩⟩, ⟨by omega, by omega, .inl ⟨rfl, h.good hz _, hr⟩⟩, h1⟩
theorem Inv.open_ok (h : Inv xs z i N J) (hz5 : 5 ≤ z) (hz : z ≤ 1000) (hi : i < 1000) : OpenOk N z J.m J.f J.a J.pos (recsJ xs z (J.f - 1) J.count) := by
  have hlen := h.len
  have hcnt := h.cnt
  have hmf := h.mf
  have hcs := h.cs
  refine ⟨hz5, by omega, h.marks.new, by omega, by rw [recsJ_len]; omega, ?_, by rw [recsJ_flat, putsJ_len]; omega, h.chain hz5 hz hi⟩
  rcases h.start with e | ⟨e, _⟩ <;> omega
/-- behind the last Open the sectors hold what was put last -/
theorem Inv.open_home (h : Inv xs z i N J) (hz5 : 5 ≤ z) (hz : z ≤ 1000) (k : Nat) (hk : k < 8) : (openN z J.m J.f J.a J.pos (recsJ xs z (J.f - 1) J.count) N)[z + k]? = some (List.replicate 64 (wantV xs i k)) := by
  unfold openN
  rw [recsJ_len]
  by_cases hc : 0 < J.count
  · rw [decide_eq_true hc]
    show (settleN (foundJ z J.m J.f J.a J.pos (recsJ xs z (J.f - 1) J.count)) N)[z + k]? = _
    unfold settleN foundJ
    simp only [recsJ_flat]
    have hlen := h.len
    rw [wsec_get _ _ _ _ (by rw [homeN_len]; show (J.m + 1) % 2 + 1 ≤ _; omega), ← h.owed]
    show (if (J.m + 1) % 2 ≤ z + k ∧ z + k < (J.m + 1) % 2 + 1 then _ else _) = _
    rw [if_neg (by omega)]
    exact h.home_top k hk
  · rw [decide_eq_false hc]
    show N[z + k]? = _
    have hcnt := h.cnt
    have hf1 := h.f1
    have e : J.f - 1 = i := by omega
    rw [h.home k hk, e]
end
end Go.Proofs.Ytogjdfiimflbaaa
