/-
  Plain facts: a frame in which up to four octets one behind the other are others is none. No program. Conditions: those that each theorem names.
-/
import Derived.Test.YtenhjnicadjbaaaDoorFrames
namespace Go.Proofs.YtenhjnicadjbaaaDoor
open Go Go.RowKit

theorem xor_eq_zero {a b : Nat} (h : a ^^^ b = 0) : a = b := by
  have := congrArg (· ^^^ b) h
  simpa [Nat.xor_assoc] using this
theorem bitN_zero {c : Nat} (hc : c < 4294967296) (h : bitN c = 0) : c = 0 := by
  unfold bitN at h
  split at h
  · have := xor_eq_zero h
    omega
  · omega
theorem bitN_inj {a b : Nat} (ha : a < 4294967296) (hb : b < 4294967296) (h : bitN a = bitN b) : a = b := by
  have h2 : bitN (a ^^^ b) = 0 := by rw [bitN_xor, h, Nat.xor_self]
  exact xor_eq_zero (bitN_zero (xor_lt32 ha hb) h2)
theorem itN_inj {a b : Nat} (ha : a < 4294967296) (hb : b < 4294967296) : ∀ m, itN m a = itN m b → a = b
  | 0, h => h
  | m + 1, h => itN_inj ha hb m (bitN_inj (itN_lt ha m) (itN_lt hb m) h)
theorem u8_lt (b : UInt8) : b.toNat < 256 := by have := b.toNat_lt; omega
theorem octN_inj {r s : Nat} (b : UInt8) (hr : r < 4294967296) (hs : s < 4294967296) (h : octN r b = octN s b) : r = s := by
  have hb : b.toNat < 4294967296 := Nat.lt_trans (u8_lt b) (by decide)
  have := itN_inj (xor_lt32 hr hb) (xor_lt32 hs hb) 8 h
  have h2 := congrArg (· ^^^ b.toNat) this
  simpa [Nat.xor_assoc] using h2
theorem stN_inj : ∀ (l : List UInt8) {x y : Nat}, x < 4294967296 → y < 4294967296 → stN x l = stN y l → x = y
  | [], _, _, _, _, h => h
  | b :: l, _, _, hr, hs, h => octN_inj b hr hs (stN_inj l (octN_lt b hr) (octN_lt b hs) h)

theorem itN8_256 (y : Nat) : itN 8 (256 * y) = y := by
  have e : 256 * y = 16 * (16 * y) := by omega
  rw [e, itN_add _ 4 4, itN4_16, itN4_16]
def word4 (a b c d : UInt8) : Nat := a.toNat ^^^ (256 * b.toNat) ^^^ (256 * (256 * c.toNat)) ^^^ (256 * (256 * (256 * d.toNat)))
theorem mul256_xor (x y : Nat) : (256 * x) ^^^ (256 * y) = 256 * (x ^^^ y) := by
  have h : ∀ z : Nat, 256 * z = z <<< 8 := fun z => by rw [Nat.shiftLeft_eq]; omega
  rw [h, h, h, Nat.shiftLeft_xor_distrib]
theorem stN_word (s : Nat) (a b c d : UInt8) : stN s [a, b, c, d] = itN 32 (s ^^^ word4 a b c d) := by
  have step : ∀ (r : Nat) (x : UInt8) (m y : Nat), itN (m + 8) (r ^^^ (x.toNat ^^^ 256 * y)) = itN m (octN r x ^^^ y) := fun r x m y => by
    rw [itN_add, ← Nat.xor_assoc, itN_xor, itN8_256]
    rfl
  have e : s ^^^ word4 a b c d = s ^^^ (a.toNat ^^^ 256 * (b.toNat ^^^ 256 * (c.toNat ^^^ 256 * (d.toNat ^^^ 256 * 0)))) := by
    unfold word4
    simp only [← mul256_xor, Nat.mul_zero, Nat.xor_zero, Nat.xor_assoc]
  rw [e, step _ _ 24, step _ _ 16, step _ _ 8, step _ _ 0, Nat.xor_zero]
  rfl
theorem word4_lt (a b c d : UInt8) : word4 a b c d < 4294967296 := by
  have ha := u8_lt a
  have hb := u8_lt b
  have hc := u8_lt c
  have hd := u8_lt d
  exact xor_lt32 (xor_lt32 (xor_lt32 (by omega) (by omega)) (by omega)) (by omega)
theorem small_xor {x y : Nat} (hx : x < 256) : x ^^^ (256 * y) = x + 256 * y := by
  have h := split16 0
  have h1 : (256 * y) ^^^ x = 256 * y ||| x := by
    apply Nat.eq_of_testBit_eq
    intro i
    have e : 256 * y = y <<< 8 := by rw [Nat.shiftLeft_eq]; omega
    rw [Nat.testBit_xor, Nat.testBit_or, e]
    by_cases hi : i < 8
    · have : ¬ 8 ≤ i := by omega
      simp [Nat.testBit_shiftLeft, this]
    · have h16 : 256 ≤ 2 ^ i := Nat.pow_le_pow_right (n := 2) (i := 8) (by decide) (by omega)
      have : x.testBit i = false := Nat.testBit_lt_two_pow (Nat.lt_of_lt_of_le hx h16)
      simp [this]
  have h2 : y <<< 8 + x = y <<< 8 ||| x := Nat.shiftLeft_add_eq_or_of_lt (by omega) _
  have e : 256 * y = y <<< 8 := by rw [Nat.shiftLeft_eq]; omega
  rw [Nat.xor_comm, h1, e, ← h2, Nat.add_comm]
theorem word4_sum (a b c d : UInt8) : word4 a b c d = a.toNat + 256 * (b.toNat + 256 * (c.toNat + 256 * d.toNat)) := by
  have e : word4 a b c d = a.toNat ^^^ 256 * (b.toNat ^^^ 256 * (c.toNat ^^^ 256 * d.toNat)) := by
    unfold word4
    simp only [← mul256_xor, Nat.xor_assoc]
  rw [e, small_xor (u8_lt c), small_xor (u8_lt b), small_xor (u8_lt a)]
theorem le4_word {n : Nat} (hn : n < 4294967296) : ∃ a b c d, le4 n = [a, b, c, d] ∧ word4 a b c d = n := by
  refine ⟨_, _, _, _, rfl, ?_⟩
  rw [word4_sum]
  simp only [UInt8.toNat_ofNat']
  omega
theorem word4_inj {a b c d a' b' c' d' : UInt8} (h : word4 a b c d = word4 a' b' c' d') : a = a' ∧ b = b' ∧ c = c' ∧ d = d' := by
  rw [word4_sum, word4_sum] at h
  have := u8_lt a; have := u8_lt b; have := u8_lt c; have := u8_lt d
  have := u8_lt a'; have := u8_lt b'; have := u8_lt c'; have := u8_lt d'
  exact ⟨UInt8.toNat_inj.1 (by omega), UInt8.toNat_inj.1 (by omega), UInt8.toNat_inj.1 (by omega), UInt8.toNat_inj.1 (by omega)⟩
theorem four_of {l : List UInt8} (h : l.length = 4) : ∃ a b c d, l = [a, b, c, d] := by
  match l, h with
  | [a, b, c, d], _ => exact ⟨a, b, c, d, rfl⟩
def residue : Nat := itN 32 4294967295
/-- A frame is known by what remains. -/
theorem framed_iff (l : List UInt8) (h : 4 ≤ l.length) : framed l = true ↔ stN 4294967295 l = residue := by
  obtain ⟨a, b, c, d, ht⟩ := four_of (l := l.drop (l.length - 4)) (by rw [List.length_drop]; omega)
  have hs := stN_lt (l.take (l.length - 4)) (r := 4294967295) (by decide)
  have hl : stN 4294967295 l = itN 32 (stN 4294967295 (l.take (l.length - 4)) ^^^ word4 a b c d) := by
    conv => lhs; rw [← List.take_append_drop (l.length - 4) l, ht, stN_append, stN_word]
  obtain ⟨a', b', c', d', h4, hw⟩ := le4_word (crcN_lt (l.take (l.length - 4)))
  have hcr : crcN (l.take (l.length - 4)) = stN 4294967295 (l.take (l.length - 4)) ^^^ 4294967295 := rfl
  unfold framed
  rw [decide_eq_true_iff, ht, h4, hl]
  rw [hcr] at hw
  unfold residue
  generalize stN 4294967295 (l.take (l.length - 4)) = s at *
  constructor
  · intro e
    simp only [List.cons.injEq, and_true] at e
    obtain ⟨rfl, rfl, rfl, rfl⟩ := e
    rw [hw, ← Nat.xor_assoc, Nat.xor_self, Nat.zero_xor]
  · intro e
    have e1 := itN_inj (xor_lt32 hs (word4_lt a b c d)) (by decide) 32 e
    have e2 : word4 a b c d = s ^^^ 4294967295 := by
      rw [← e1, ← Nat.xor_assoc, Nat.xor_self, Nat.zero_xor]
    obtain ⟨rfl, rfl, rfl, rfl⟩ := word4_inj (e2.trans hw.symm)
    rfl
theorem framed_frame (l : List UInt8) : framed (frameL l) = true := by
  unfold framed
  rw [frameL_len, Nat.add_sub_cancel, decide_eq_true_iff]
  simp [frameL]

/-- i of four octets from k on, others -/
def chg (f : List UInt8) (k : Nat) (ws : List UInt8) : Nat → List UInt8
  | 0 => f
  | i + 1 => (chg f k ws i).set (k + i) (f.getD (k + i) 0 ^^^ ws.getD i 0)
theorem chg_len (f : List UInt8) (k : Nat) (ws : List UInt8) : ∀ i, (chg f k ws i).length = f.length
  | 0 => rfl
  | i + 1 => by simp [chg, chg_len f k ws i]
theorem chg_at (f : List UInt8) (k : Nat) (ws : List UInt8) : ∀ i j, k + i ≤ j → (chg f k ws i)[j]? = f[j]?
  | 0, _, _ => rfl
  | i + 1, j, h => by
    simp only [chg]
    rw [List.getElem?_set_ne (by omega)]
    exact chg_at f k ws i j (by omega)
theorem chg_four (p q : List UInt8) (a b c d w0 w1 w2 w3 : UInt8) : chg (p ++ [a, b, c, d] ++ q) p.length [w0, w1, w2, w3] 4 = p ++ [a ^^^ w0, b ^^^ w1, c ^^^ w2, d ^^^ w3] ++ q := by
  simp [chg, List.getD_eq_getElem?_getD, List.set_append_right]
theorem parts (f : List UInt8) (k : Nat) (h : k + 4 ≤ f.length) : ∃ p a b c d q, f = p ++ [a, b, c, d] ++ q ∧ p.length = k := by
  obtain ⟨a, b, c, d, h4⟩ := four_of (l := (f.drop k).take 4) (by rw [List.length_take, List.length_drop]; omega)
  refine ⟨f.take k, a, b, c, d, (f.drop k).drop 4, ?_, by rw [List.length_take]; omega⟩
  rw [← h4, List.append_assoc, List.take_append_drop, List.take_append_drop]
theorem xor_self_u8 (a w : UInt8) (h : a ^^^ w = a) : w = 0 := by
  have := congrArg (fun x => a ^^^ x) h
  simpa [← UInt8.xor_assoc] using this
theorem chg_framed (l : List UInt8) (k : Nat) (w0 w1 w2 w3 : UInt8) (hk : k ≤ l.length) :
    framed (chg (frameL l) k [w0, w1, w2, w3] 4) = decide (w0 = 0 ∧ w1 = 0 ∧ w2 = 0 ∧ w3 = 0) := by
  have hf := frameL_len l
  obtain ⟨p, a, b, c, d, q, hfe, hp⟩ := parts (frameL l) k (by omega)
  have hok := (framed_iff (frameL l) (by omega)).1 (framed_frame l)
  have hlen := chg_len (frameL l) k [w0, w1, w2, w3] 4
  have hiff := framed_iff (chg (frameL l) k [w0, w1, w2, w3] 4) (by omega)
  have hch : chg (frameL l) k [w0, w1, w2, w3] 4 = p ++ [a ^^^ w0, b ^^^ w1, c ^^^ w2, d ^^^ w3] ++ q := by rw [hfe, ← hp, chg_four]
  rw [hch] at hiff ⊢
  rw [hfe] at hok
  rw [stN_append, stN_append, stN_word] at hok hiff
  have hs := stN_lt p (r := 4294967295) (by decide)
  generalize stN 4294967295 p = s at *
  have key : framed (p ++ [a ^^^ w0, b ^^^ w1, c ^^^ w2, d ^^^ w3] ++ q) = true ↔ (w0 = 0 ∧ w1 = 0 ∧ w2 = 0 ∧ w3 = 0) := by
    rw [hiff, ← hok]
    constructor
    · intro e
      have l1 := xor_lt32 hs (word4_lt (a ^^^ w0) (b ^^^ w1) (c ^^^ w2) (d ^^^ w3))
      have l2 := xor_lt32 hs (word4_lt a b c d)
      have e1 := itN_inj l1 l2 32 (stN_inj q (itN_lt l1 32) (itN_lt l2 32) e)
      have e2 := congrArg (s ^^^ ·) e1
      simp only [← Nat.xor_assoc, Nat.xor_self, Nat.zero_xor] at e2
      obtain ⟨h0, h1, h2, h3⟩ := word4_inj e2
      exact ⟨xor_self_u8 _ _ h0, xor_self_u8 _ _ h1, xor_self_u8 _ _ h2, xor_self_u8 _ _ h3⟩
    · rintro ⟨rfl, rfl, rfl, rfl⟩
      simp
  cases hb : framed (p ++ [a ^^^ w0, b ^^^ w1, c ^^^ w2, d ^^^ w3] ++ q) with
  | true => rw [decide_eq_true (key.1 hb)]
  | false => rw [decide_eq_false (fun h => by rw [key.2 h] at hb; cases hb)]
theorem chg_zero (f : List UInt8) (k : Nat) (hk : k + 4 ≤ f.length) : chg f k [0, 0, 0, 0] 4 = f := by
  obtain ⟨p, a, b, c, d, q, rfl, rfl⟩ := parts f k hk
  rw [chg_four]
  simp
end Go.Proofs.YtenhjnicadjbaaaDoor
