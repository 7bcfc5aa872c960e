/-
  Plain facts on check sums: steps of bits, octets, nibbles on natural numbers. No program. No condition.
-/
import Derived.Test.YtenhjnicadjbaaaDoorMem
namespace Go.Proofs.YtenhjnicadjbaaaDoor
open Go Go.RowKit

def bitN (r : Nat) : Nat := if r % 2 = 1 then (r / 2) ^^^ 3988292384 else r / 2
def itN : Nat → Nat → Nat
  | 0, r => r
  | m + 1, r => bitN (itN m r)
def octN (r : Nat) (b : UInt8) : Nat := itN 8 (r ^^^ b.toNat)
def stN (r : Nat) (l : List UInt8) : Nat := l.foldl octN r
def crcN (l : List UInt8) : Nat := stN 4294967295 l ^^^ 4294967295

theorem xor_lt32 {a b : Nat} (ha : a < 4294967296) (hb : b < 4294967296) : a ^^^ b < 4294967296 := Nat.xor_lt_two_pow (n := 32) ha hb
theorem bitN_lt {r : Nat} (h : r < 4294967296) : bitN r < 4294967296 := by
  unfold bitN
  split
  · exact xor_lt32 (by omega) (by decide)
  · omega
theorem itN_lt {r : Nat} (h : r < 4294967296) : ∀ m, itN m r < 4294967296
  | 0 => h
  | m + 1 => bitN_lt (itN_lt h m)
theorem octN_lt {r : Nat} (b : UInt8) (h : r < 4294967296) : octN r b < 4294967296 :=
  itN_lt (xor_lt32 h (by have := b.toNat_lt; omega)) 8
theorem stN_lt : ∀ (l : List UInt8) {r : Nat}, r < 4294967296 → stN r l < 4294967296
  | [], _, h => h
  | b :: l, r, h => stN_lt l (r := octN r b) (octN_lt b h)
theorem crcN_lt (l : List UInt8) : crcN l < 4294967296 := xor_lt32 (stN_lt l (by decide)) (by decide)
theorem stN_snoc (r : Nat) (l : List UInt8) (b : UInt8) : stN r (l ++ [b]) = octN (stN r l) b := by simp [stN]
theorem stN_append (r : Nat) (a b : List UInt8) : stN r (a ++ b) = stN (stN r a) b := by simp [stN]
theorem take_snoc (l : List UInt8) (k : Nat) (h : k < l.length) : l.take (k + 1) = l.take k ++ [l[k]] := by
  rw [List.take_succ_eq_append_getElem h]
theorem stN_take (r : Nat) (l : List UInt8) (k : Nat) (h : k < l.length) : stN r (l.take (k + 1)) = itN 8 (stN r (l.take k) ^^^ l[k].toNat) := by
  rw [take_snoc l k h, stN_snoc]; rfl
theorem bit_odd {z : Nat} (hz : z < 4294967296) (h : z % 2 = 1) : bits .xor .u32 ((z : Int) / 2) 3988292384 = ((bitN z : Nat) : Int) := by
  have := u32_xor_nat (z / 2) 3988292384 (by omega) (by decide)
  unfold bitN
  rw [if_pos h]
  simpa using this
theorem bit_even {z : Nat} (h : ¬ z % 2 = 1) : ((z : Int) / 2) = ((bitN z : Nat) : Int) := by
  unfold bitN
  rw [if_neg h]
  omega
theorem u32x {a b : Nat} (ha : a < 4294967296) (hb : b < 4294967296) : bits .xor .u32 (a : Int) (b : Int) = ((a ^^^ b : Nat) : Int) := u32_xor_nat a b ha hb
theorem ret_u32 {a b : Int} (h : a = b) : Ending.returned (.int .u32 a) = .returned (.int .u32 b) := by rw [h]
theorem val_u32 {a b : Int} (h : a = b) : Value.int .u32 a = .int .u32 b := by rw [h]

/- nibbles -/
def halfL : List Nat := [0, 498536548, 997073096, 651767980, 1994146192, 1802195444, 1303535960, 1342533948, 3988292384, 4027552580, 3604390888, 3412177804, 2607071920, 2262029012, 2685067896, 3183342108]
def halfN (i : Nat) : Nat := halfL.getD i 0
def nibN (c : Nat) : Nat := (c / 16) ^^^ halfN (c % 16)
theorem halfN_lt : ∀ i, i < 16 → halfN i < 4294967296 := by decide
theorem nibN_lt {c : Nat} (h : c < 4294967296) : nibN c < 4294967296 := xor_lt32 (by omega) (halfN_lt _ (Nat.mod_lt _ (by decide)))
theorem and15 {y : Nat} (h : y < 4294967296) : bits .and .u32 (y : Int) 15 = ((y % 16 : Nat) : Int) := by
  have := u32_and_nat y 15 h (by decide)
  rw [nat_mask4] at this
  exact this
theorem comp32 {s : Nat} (h : s < 4294967296) : bits .xor .u32 IntKind.u32.max (s : Int) = ((s ^^^ 4294967295 : Nat) : Int) := by
  have := u32_xor_nat 4294967295 s (by decide) h
  rw [Nat.xor_comm] at this
  exact this
theorem sg32 : IntKind.u32.signed = false := rfl
theorem nib_bits {y : Nat} (h : y < 4294967296) : bits .xor .u32 ((y : Int) / 16) (halfN (y % 16) : Nat) = ((nibN y : Nat) : Int) := by
  have := u32_xor_nat (y / 16) (halfN (y % 16)) (by omega) (halfN_lt _ (Nat.mod_lt _ (by decide)))
  simpa [nibN] using this

theorem xor_half (a b : Nat) : (a ^^^ b) / 2 = (a / 2) ^^^ (b / 2) := by
  apply Nat.eq_of_testBit_eq
  intro i
  simp [Nat.testBit_div_two]
theorem xor_par (a b : Nat) : (a ^^^ b) % 2 = (a % 2 + b % 2) % 2 := by
  have h := Nat.testBit_xor a b 0
  simp only [Nat.testBit_zero] at h
  have ha := Nat.mod_two_eq_zero_or_one a
  have hb := Nat.mod_two_eq_zero_or_one b
  have hc := Nat.mod_two_eq_zero_or_one (a ^^^ b)
  rcases ha with ha | ha <;> rcases hb with hb | hb <;> rcases hc with hc | hc <;> simp_all
theorem xor_swap (a b c : Nat) : (a ^^^ b) ^^^ c = (a ^^^ c) ^^^ b := by rw [Nat.xor_assoc, Nat.xor_comm b c, Nat.xor_assoc]
theorem xor_twice (a b c : Nat) : (a ^^^ c) ^^^ (b ^^^ c) = a ^^^ b := by
  rw [Nat.xor_comm b c, ← Nat.xor_assoc, Nat.xor_assoc a c c, Nat.xor_self, Nat.xor_zero]
/-- a step of bits is linear -/
theorem bitN_xor (a b : Nat) : bitN (a ^^^ b) = bitN a ^^^ bitN b := by
  have hp := xor_par a b
  unfold bitN
  have ha := Nat.mod_two_eq_zero_or_one a
  have hb := Nat.mod_two_eq_zero_or_one b
  rcases ha with ha | ha <;> rcases hb with hb | hb <;> rw [ha, hb] at hp <;> rw [ha, hb, hp, xor_half]
  · rfl
  · simp [Nat.xor_assoc]
  · simp; exact xor_swap _ _ _
  · simp; exact (xor_twice _ _ _).symm
theorem itN_xor : ∀ (m a b : Nat), itN m (a ^^^ b) = itN m a ^^^ itN m b
  | 0, _, _ => rfl
  | m + 1, a, b => by simp only [itN]; rw [itN_xor m, bitN_xor]
theorem bitN_even (d : Nat) : bitN (2 * d) = d := by
  unfold bitN
  rw [if_neg (by omega)]; omega
theorem itN4_16 (d : Nat) : itN 4 (16 * d) = d := by
  have e : 16 * d = 2 * (2 * (2 * (2 * d))) := by omega
  rw [e]
  simp only [itN, bitN_even]
theorem half_it : ∀ i, i < 16 → halfN i = itN 4 i := by decide
theorem split16 (c : Nat) : c = (16 * (c / 16)) ^^^ (c % 16) := by
  have h : 16 * (c / 16) = (c / 16) <<< 4 := by rw [Nat.shiftLeft_eq]; omega
  have h2 : (c / 16) <<< 4 + c % 16 = (c / 16) <<< 4 ||| c % 16 := Nat.shiftLeft_add_eq_or_of_lt (by omega) _
  rw [h]
  have h3 : (c / 16) <<< 4 ^^^ c % 16 = (c / 16) <<< 4 ||| c % 16 := by
    apply Nat.eq_of_testBit_eq
    intro i
    rw [Nat.testBit_xor, Nat.testBit_or]
    by_cases hi : i < 4
    · have : ¬ 4 ≤ i := by omega
      simp [Nat.testBit_shiftLeft, this]
    · have h16 : 16 ≤ 2 ^ i := Nat.pow_le_pow_right (n := 2) (i := 4) (by decide) (by omega)
      have : (c % 16).testBit i = false := Nat.testBit_lt_two_pow (Nat.lt_of_lt_of_le (Nat.mod_lt _ (by decide)) h16)
      simp [this]
  rw [h3, ← h2, Nat.shiftLeft_eq]
  omega
theorem nib_it (c : Nat) : nibN c = itN 4 c := by
  conv => rhs; rw [split16 c, itN_xor, itN4_16]
  rw [nibN, half_it _ (Nat.mod_lt _ (by decide))]
theorem itN_add (r : Nat) (n : Nat) : ∀ m, itN (m + n) r = itN m (itN n r)
  | 0 => by simp [itN]
  | m + 1 => by rw [Nat.add_right_comm]; simp only [itN]; rw [itN_add r n m]
theorem octN_nib (r : Nat) (b : UInt8) : nibN (nibN (r ^^^ b.toNat)) = octN r b := by
  rw [nib_it, nib_it]
  exact (itN_add _ 4 4).symm
/- differences -/
theorem xor_mid (a b c d : Nat) : (a ^^^ b) ^^^ (c ^^^ d) = (a ^^^ c) ^^^ (b ^^^ d) := by
  rw [Nat.xor_assoc, ← Nat.xor_assoc b c d, Nat.xor_comm b c, Nat.xor_assoc c b d, ← Nat.xor_assoc]
theorem octN_xor (r s : Nat) (b c : UInt8) : octN r b ^^^ octN s c = octN (r ^^^ s) (b ^^^ c) := by
  unfold octN
  rw [← itN_xor, UInt8.toNat_xor, xor_mid]
theorem stN_xor : ∀ (a b : List UInt8) (r s : Nat), a.length = b.length → stN r a ^^^ stN s b = stN (r ^^^ s) (List.zipWith (· ^^^ ·) a b)
  | [], [], _, _, _ => rfl
  | x :: a, y :: b, r, s, h => by
    have := stN_xor a b (octN r x) (octN s y) (by simpa using h)
    rw [octN_xor] at this
    exact this
def xor3At (a b c : List UInt8) (j : Nat) : UInt8 := a.getD j 0 ^^^ b.getD j 0 ^^^ c.getD j 0
def xor3 (a b c : List UInt8) (n : Nat) : List UInt8 := (List.range n).map (xor3At a b c)
theorem xor3_zip (a b c : List UInt8) (n : Nat) (ha : n ≤ a.length) (hb : n ≤ b.length) (hc : n ≤ c.length) :
    List.zipWith (· ^^^ ·) (List.zipWith (· ^^^ ·) (a.take n) (b.take n)) (c.take n) = xor3 a b c n := by
  apply List.ext_getElem
  · simp [xor3]; omega
  · intro j h1 h2
    have hj : j < n := by simpa [xor3] using h2
    simp [xor3, xor3At, List.getD_eq_getElem?_getD, List.getElem?_eq_getElem (show j < a.length by omega), List.getElem?_eq_getElem (show j < b.length by omega), List.getElem?_eq_getElem (show j < c.length by omega)]
theorem crc_three (a b c : List UInt8) (n : Nat) (ha : n ≤ a.length) (hb : n ≤ b.length) (hc : n ≤ c.length) :
    crcN (a.take n) ^^^ crcN (b.take n) ^^^ crcN (c.take n) = crcN (xor3 a b c n) := by
  have e1 := stN_xor (a.take n) (b.take n) 4294967295 4294967295 (by simp; omega)
  rw [Nat.xor_self] at e1
  have e2 := stN_xor (List.zipWith (· ^^^ ·) (a.take n) (b.take n)) (c.take n) 0 4294967295 (by simp; omega)
  rw [← e1, Nat.zero_xor, xor3_zip a b c n ha hb hc] at e2
  unfold crcN
  rw [← e2, xor_twice, ← Nat.xor_assoc]
end Go.Proofs.YtenhjnicadjbaaaDoor
