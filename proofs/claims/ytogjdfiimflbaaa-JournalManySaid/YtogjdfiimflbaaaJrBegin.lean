/-
  A formatted place; the document's example in plain words. No walk.
-/
import Derived.Test.YtogjdfiimflbaaaJrInv
namespace Go.Proofs.Ytogjdfiimflbaaa
open Go Go.RowKit

theorem fmt_get (z L j : Nat) (h2 : 2 ≤ z) (hz : z ≤ L) : (fmtN z (List.replicate L zero64))[j]? = if j = 1 then some (markL 1 1 2) else (List.replicate L zero64)[j]? := by
  unfold fmtN
  rw [wsec_get _ _ _ _ (by rw [wsec_len]; simp; omega), wsec_get _ _ _ _ (by simp; omega)]
  show (if 1 ≤ j ∧ j < 1 + 1 then _ else _) = _
  by_cases h1 : j = 1
  · subst h1
    rw [if_pos (by omega), if_pos rfl]
    rfl
  · rw [if_neg (by omega), if_neg h1, List.length_replicate]
    by_cases h3 : 0 ≤ j ∧ j < 0 + z
    · rw [if_pos h3, List.getElem?_replicate, List.getElem?_replicate, if_pos (by omega), if_pos (by omega)]
    · rw [if_neg h3]
theorem fmt_zero (z L j : Nat) (h2 : 2 ≤ z) (hz : z ≤ L) (h1 : j ≠ 1) (hj : j < L) : (fmtN z (List.replicate L zero64))[j]? = some zero64 := by
  rw [fmt_get z L j h2 hz, if_neg h1, List.getElem?_replicate, if_pos hj]
theorem fmt_len (z L : Nat) : (fmtN z (List.replicate L zero64)).length = L := by
  unfold fmtN
  rw [wsec_len, wsec_len, List.length_replicate]
theorem fmt_marks (z L : Nat) (h2 : 2 ≤ z) (hz : z ≤ L) : MarksOk (fmtN z (List.replicate L zero64)) z 1 1 2 :=
  .inl ⟨rfl, ⟨_, by rw [fmt_get z L 1 h2 hz, if_pos rfl], .inr ⟨rfl, rfl, by decide, by decide, by decide, rfl, Nat.le_refl _, h2⟩⟩, zero64, 0, 0, 0, false, fmt_zero z L 0 h2 hz (by decide) (by omega), .inl ⟨rfl, rfl, rfl, rfl, rfl⟩, by decide⟩
def freshJ (z : Nat) : JS := { z := z, m := 1, f := 1, a := 2, next := 1, pos := 2, base := 2, count := 0, owed := [] }
theorem openJ_fresh (z : Nat) : openJ z 1 1 2 2 [] = freshJ z := rfl
theorem inv_zero (xs : List UInt8) (z : Nat) (h5 : 5 ≤ z) : Inv xs z 0 (fmtN z (List.replicate (z + 8) zero64)) (freshJ z) := by
  have hz : ∀ j, j ≠ 1 → j < z + 8 → (fmtN z (List.replicate (z + 8) zero64))[j]? = some zero64 := fun j h1 hj => fmt_zero z (z + 8) j (by omega) (by omega) h1 hj
  exact ⟨fmt_len _ _, rfl, rfl, Nat.le_refl _, rfl, Nat.zero_le _, rfl, rfl, .inl rfl, Nat.le_refl _, Nat.le_refl _, .inl rfl, fun k hk => hz _ (by omega) (by omega), fun t ht => absurd ht (Nat.not_lt_zero _), fun t _ ht => ⟨_, hz _ (by omega) (by omega), .inl rfl⟩, fun j hj1 hj2 => hz _ (by omega) (by omega), fmt_marks z (z + 8) (by omega) (by omega)⟩
theorem open_fresh (z L : Nat) (h5 : 5 ≤ z) (hz : z ≤ 1000) (hL : z ≤ L) : OpenOk (fmtN z (List.replicate L zero64)) z 1 1 2 2 [] := by
  have hl := fmt_len z L
  have hno : NoRec ((fmtN z (List.replicate L zero64)).take z) 2 1 := .inr ⟨zero64, by rw [List.getElem?_take_of_lt (by omega)]; exact fmt_zero z L 2 (by omega) hL (by decide) (by omega), rfl, 0, rfl, .inl (by decide)⟩
  exact ⟨h5, by omega, (fmt_marks z L (by omega) hL).new, by decide, (by show 1 + 0 < _; omega), by omega, (by show 0 ≤ _; omega), ⟨by omega, by omega, .inr ⟨rfl, rfl, hno⟩⟩, ⟨by omega, by omega, .inr ⟨rfl, rfl, hno⟩⟩, rfl⟩

/-- the example's puts -/
def awkP : List PutL := [(20, List.replicate 64 1), (21, List.replicate 64 2)]
theorem awkP_ok : ∀ p ∈ awkP, PutOk p ∧ 10 ≤ p.1 ∧ p.1 < 30 := fun p hp => by
  unfold awkP at hp
  rcases List.mem_cons.1 hp with rfl | hp
  · exact ⟨⟨by decide, rfl⟩, by decide, by decide⟩
  · rw [List.mem_singleton.1 hp]
    exact ⟨⟨by decide, rfl⟩, by decide, by decide⟩
def awkN : List (List UInt8) := fmtN 10 (List.replicate 30 zero64)
theorem awk_room : roomR (freshJ 10) 4 = (2, true) := rfl
theorem awk_cmt : CmtOk (freshJ 10) awkN awkP :=
  ⟨by decide, by decide, fun p hp => by
    have := awkP_ok p hp
    rw [show awkN.length = 30 from fmt_len 10 30]
    exact this, by decide, by decide, by decide, by decide, by decide, .inl rfl, .inl rfl, by rw [show awkN.length = 30 from fmt_len 10 30]; decide, by decide⟩
def awkJ : JS := { z := 10, m := 1, f := 1, a := 2, next := 2, pos := 6, base := 2, count := 1, owed := awkP }
theorem awk_done : doneJ (freshJ 10) awkP = awkJ := rfl
theorem awk_doneN : doneN (freshJ 10) awkN awkP = wsec awkN 2 (recL 1 awkP) := doneN_eq (freshJ 10) awkN awkP awk_cmt.fits
theorem awk_get (j : Nat) : (doneN (freshJ 10) awkN awkP)[j]? = if 2 ≤ j ∧ j < 6 then (recL 1 awkP)[j - 2]? else awkN[j]? := by
  rw [awk_doneN, wsec_get _ _ _ _ (by rw [recL_len, show awkN.length = 30 from fmt_len 10 30]; decide), recL_len]
  rfl
theorem awk_len : (doneN (freshJ 10) awkN awkP).length = 30 := by rw [awk_doneN, wsec_len]; exact fmt_len 10 30
theorem awk_rec : RecAt ((doneN (freshJ 10) awkN awkP).take 10) 2 1 awkP := recAt_of (fun j hj => by
  have hj : j < 4 := hj
  rw [List.getElem?_take_of_lt (by omega), awk_get, if_pos (by omega), show 2 + j - 2 = j by omega])
theorem awk_open : OpenOk (doneN (freshJ 10) awkN awkP) 10 1 1 2 6 [awkP] := by
  have hl := awk_len
  have hm : MarksOk (doneN (freshJ 10) awkN awkP) 10 1 1 2 := (fmt_marks 10 30 (by decide) (by decide)).keep (by rw [awk_get, if_neg (by decide)]; rfl) (by rw [awk_get, if_neg (by decide)]; rfl)
  have hg : GoodP 10 (doneN (freshJ 10) awkN awkP).length awkP := ⟨by decide, by decide, by rw [hl]; exact awkP_ok⟩
  have hno6 : NoRec ((doneN (freshJ 10) awkN awkP).take 10) 6 2 := .inr ⟨zero64, by
    rw [List.getElem?_take_of_lt (by decide), awk_get, if_neg (by decide)]
    exact fmt_zero 10 30 6 (by decide) (by decide) (by decide) (by decide), rfl, 0, rfl, .inl (by decide)⟩
  have hno2 : NoRec ((doneN (freshJ 10) awkN awkP).take 10) 2 2 := .inr ⟨_, awk_rec.1, headL_len 1 (by decide), 72, headL_0 1 awkP, .inr ⟨1, by decide, headL_1 1 awkP, by decide⟩⟩
  exact ⟨by decide, by rw [hl]; decide, hm.new, by decide, by decide, by decide, by decide, .inl ⟨⟨by decide, by decide, .inl ⟨rfl, hg, awk_rec⟩⟩, ⟨by decide, by decide, .inr ⟨rfl, rfl, hno6⟩⟩, ⟨by decide, by decide, .inr ⟨rfl, rfl, hno2⟩⟩, rfl⟩⟩
theorem awk_home : (((openN 10 1 1 2 6 [awkP] (doneN (freshJ 10) awkN awkP)).drop 20).take 2) = [List.replicate 64 1, List.replicate 64 2] := by
  have hl := awk_len
  have hget : ∀ j, j < 2 → (openN 10 1 1 2 6 [awkP] (doneN (freshJ 10) awkN awkP))[20 + j]? = [List.replicate 64 1, List.replicate 64 2][j]? := fun j hj => by
    show (settleN (foundJ 10 1 1 2 6 [awkP]) (doneN (freshJ 10) awkN awkP))[20 + j]? = _
    unfold settleN
    rw [wsec_get _ _ _ _ (by rw [homeN_len, hl]; decide), if_neg (by show ¬ (0 ≤ 20 + j ∧ 20 + j < 0 + 1); omega)]
    show (wsec (wsec (doneN (freshJ 10) awkN awkP) 20 [List.replicate 64 1]) 21 [List.replicate 64 2])[20 + j]? = _
    rw [wsec_get _ _ _ _ (by rw [wsec_len, hl]; decide), wsec_get _ _ _ _ (by rw [hl]; decide)]
    rcases (by omega : j = 0 ∨ j = 1) with rfl | rfl
    · rfl
    · rfl
  apply List.ext_getElem?
  intro j
  by_cases hj : j < 2
  · rw [List.getElem?_take_of_lt hj, List.getElem?_drop]
    exact hget j hj
  · rw [List.getElem?_eq_none (by rw [List.length_take]; omega), List.getElem?_eq_none (by show 2 ≤ j; omega)]
end Go.Proofs.Ytogjdfiimflbaaa
