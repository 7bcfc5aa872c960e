/-
  The walks of journal's number and word. Conditions: the octets lie as their lists say.
-/
import Derived.Test.YtogjdfiimflbaaaJrMem
namespace Go.Proofs.Ytogjdfiimflbaaa
open Go Go.RowKit

def wordS (z : Int) (b : UInt8) : Int := bits .or .i64 (wrap64 (z * 256)) (wrap64 (b.toNat : Int))
def wordI (l : List UInt8) : Int := l.foldl wordS 0
theorem wordI_snoc (l : List UInt8) (k : Nat) (h : k < l.length) : wordI (l.take (k + 1)) = wordS (wordI (l.take k)) l[k] := by
  unfold wordI
  rw [List.take_succ_eq_append_getElem h, List.foldl_append]
  rfl
set_option maxRecDepth 100000 in
set_option maxHeartbeats 1000000 in
theorem word_any (l : List UInt8) (A : Option Addr) (n c B : Nat) (w : World) (hn : n = l.length) (hl : l.length ≤ 8) (hB : B ≤ w.heap.size) (hA : Reads w B 1 A n (byts l)) :
    Calls Try.prog 42 #[.slice A n c] w fun e w' => e = .returned (.int .i64 (wordI l)) ∧ w' = w := by
  subst hn
  have HA := hide hA
  clear hA
  go_enter Try.func42, Try.ntmps42
  go_wp2_with fail
  go_loopw [3, 8] (fun x i wr => ∃ k : Nat, k ≤ l.length ∧ i = .int .i64 (k : Int) ∧ x = .int .i64 (wordI (l.take k)) ∧ wr = w) (fun _ i _ => l.length - (intOf i).toNat)
  case atStart => exact ⟨0, Nat.zero_le _, rfl, rfl, rfl⟩
  case round =>
    obtain ⟨k, hk, rfl, rfl, rfl⟩ := hrel
    by_cases hlt : k < l.length
    · obtain ⟨ad, u, rfl, hb, hu, hc⟩ := Reads.at_ HA.out hlt
      have eu : u = .int .u8 ((l[k].toNat : Nat) : Int) := by simpa [byts, hlt] using hu.symm
      subst eu
      have q0 := hc
      have i1 : (0 : Int) ≤ (k : Int) := by omega
      have i2 : (k : Int) < (l.length : Int) := by omega
      have HS := hide (wordI_snoc l k hlt)
      unfold wordS at HS
      generalize l[k] = b at *
      generalize wordI (l.take k) = z at *
      go_wp2
      go_roundw
      case rel => exact ⟨k + 1, by omega, by go_num, by rw [HS.out], trivial⟩
      case measure => simp [intOf]; omega
    · rw [List.take_of_length_le (by omega)]
      go_wp2
      go_ret
      exact ⟨rfl, rfl⟩
/-- so many octets of a number, the greatest first -/
def beL (x : Nat) : Nat → List UInt8
  | 0 => []
  | s + 1 => UInt8.ofNat (x / 256 ^ s) :: beL x s
theorem beL_len (x : Nat) : ∀ s, (beL x s).length = s
  | 0 => rfl
  | s + 1 => by rw [beL, List.length_cons, beL_len x s]
theorem beL_get (x : Nat) : ∀ (s k : Nat) (h : k < (beL x s).length), (beL x s)[k] = UInt8.ofNat (x / 256 ^ (s - 1 - k))
  | 0, k, h => absurd h (by simp [beL])
  | s + 1, 0, _ => by simp [beL]
  | s + 1, k + 1, h => by
    have ih := beL_get x s k (by simpa [beL] using h)
    simp only [beL, List.getElem_cons_succ]
    rw [ih, show s + 1 - 1 - (k + 1) = s - 1 - k by omega]

set_option maxRecDepth 100000 in
set_option maxHeartbeats 1000000 in
theorem number_any (b : List UInt8) (v : Value) (x s base : Nat) (W : World) (hs : s ≤ 8) (hx : x < 72057594037927936) (hb : b.length ≤ 1000) (hbase : base ≤ W.heap.size) (hown : W.ownsRow base 5 1 v b.length (byts b)) :
    Calls Try.prog 39 #[v, .int .i64 (x : Int), .int .i64 (s : Int)] W fun e W' => ∃ v', e = .returned v' ∧ W'.ownsRow base 5 1 v' (b.length + s) (byts (b ++ beL x s)) ∧ (v'.ownBlock = v.ownBlock ∨ ∃ q, v'.ownBlock = some q ∧ W.heap.size ≤ q) ∧ Fr (fun q => v.ownBlock = some q) W W' := by
  have HO := hide hown
  clear hown
  obtain ⟨i0, hi0, hz0, hz1, hz2⟩ := info_parts info_cbyt
  go_enter Try.func39, Try.ntmps39
  go_wp2_with fail
  go_loopw [0, 7] (fun u i wr => ∃ k : Nat, k ≤ s ∧ i = .int .i64 ((s : Int) - 1 - (k : Int)) ∧ wr.ownsRow base 5 1 u (b.length + k) (byts (b ++ (beL x s).take k)) ∧ (u.ownBlock = v.ownBlock ∨ ∃ q, u.ownBlock = some q ∧ W.heap.size ≤ q) ∧ Fr (fun q => v.ownBlock = some q) W wr) (fun _ i _ => (intOf i + 1).toNat)
  case atStart => exact ⟨0, Nat.zero_le _, by go_num, by simpa using HO.out, .inl rfl, Fr.refl _ _⟩
  case round =>
    obtain ⟨k, hk, rfl, hown, hob, hfr⟩ := hrel
    have HO1 := hide hown
    have HOB := hide hob
    have HFR := hide hfr
    clear hown hob hfr
    by_cases hlt : k < s
    · have i1 : (0 : Int) ≤ (s : Int) - 1 - (k : Int) := by omega
      obtain ⟨i, hi⟩ : ∃ i : Nat, (s : Int) - 1 - (k : Int) = (i : Int) := ⟨s - 1 - k, by omega⟩
      rw [hi]
      have hi2 : i ≤ 7 := by omega
      have hkl : k < (beL x s).length := by rw [beL_len]; exact hlt
      have HT : Hid (byts (b ++ (beL x s).take (k + 1)) = byts (b ++ (beL x s).take k) ++ [.int .u8 ((x : Int) / 2 ^ (8 * i) % 256)]) := by
        show _ = _
        rw [List.take_succ_eq_append_getElem hkl, beL_get x s k hkl, ← List.append_assoc]
        have e1 : ((UInt8.ofNat (x / 256 ^ (s - 1 - k))).toNat : Int) = (x : Int) / 2 ^ (8 * i) % 256 := by
          rw [show s - 1 - k = i by omega, UInt8.toNat_ofNat', show (256 : Nat) = 2 ^ 8 by decide, ← Nat.pow_mul]
          simp [Int.natCast_emod, Int.natCast_ediv, Int.natCast_pow]
        simp only [byts, List.map_append, List.map_cons, List.map_nil, e1]
      have HO2 : Hid ((wr.alloc (.cells #[.int .u8 ((x : Int) / 2 ^ (8 * i) % 256)] 5)).ownsRow base 5 1 u0 (b.length + k) (byts (b ++ (beL x s).take k))) := own_keep HO1.out ((Below.refl _ _).alloc (Nat.le_refl _) _)
      have HR2 : Hid (Reads (wr.alloc (.cells #[.int .u8 ((x : Int) / 2 ^ (8 * i) % 256)] 5)) (wr.heap.size + 1) 1 (some ⟨wr.heap.size, 0, none⟩) 1 [.int .u8 ((x : Int) / 2 ^ (8 * i) % 256)]) := ⟨rfl, fun _ => ⟨_, rfl, by simp, fun j u hu => by
        rw [add_flat, cell_new, ← hu]
        simp⟩⟩
      have hsz := HFR.out.size
      generalize hub : (x : Int) / 2 ^ (8 * i) % 256 = ub at *
      go_wp2_with (at_builtin; refine wpList_append_any _ rfl (.tmp 14) (.tmp 20) _ rfl base 5 i0 _ 1 1 Try.underlying22 hi0 hz0 hz1 hz2 rfl (by omega) u0 (b.length + k) (byts (b ++ (beL x s).take k)) rfl HO2.out (wr.heap.size + 1) (some ⟨wr.heap.size, 0, none⟩) 1 1 [.int .u8 ub] rfl HR2.out (by simp [Value.oneCell']) (by simp only [maxLen]; omega) (by omega) (by simp; omega) ?_; intro v1 w1 hown1 hg1 hat1)
      have HO3 : Hid (w1.ownsRow base 5 1 v1 (b.length + (k + 1)) (byts (b ++ (beL x s).take (k + 1)))) := by rw [HT.out, ← Nat.add_assoc]; exact hown1
      have HF3 : Hid (Fr (fun q => v.ownBlock = some q) W w1) := (HFR.out.trans (Fr.of_below ((Below.refl _ _).alloc (Nat.le_refl _) (.cells #[.int .u8 ub] 5)) _) (fun _ _ e => e)).trans (Fr.of_grown hg1) (fun q hq e => by
        rcases HOB.out with h | ⟨q', h, hq'⟩
        · rw [← h]; exact e
        · rw [h] at e; injection e with e; omega)
      have HB3 : Hid (v1.ownBlock = v.ownBlock ∨ ∃ q, v1.ownBlock = some q ∧ W.heap.size ≤ q) := by
        rcases hat1 with h | h
        · rw [h]; exact HOB.out
        · exact .inr ⟨_, h, by simp; omega⟩
      clear hown1 hg1 hat1
      go_roundw
      case rel => exact ⟨k + 1, by omega, (by first | go_num | (rw [← hi]; go_num)), HO3.out, HB3.out, HF3.out⟩
      case measure => simp [intOf] <;> omega
    · obtain rfl : k = s := by omega
      rw [List.take_of_length_le (by rw [beL_len]; omega)] at HO1
      go_wp2
      go_ret
      exact ⟨_, rfl, HO1.out, HOB.out, HFR.out⟩

/-! words of small numbers -/
def natW (l : List UInt8) : Nat := l.foldl (fun z b => z * 256 + b.toNat) 0
theorem natW_snoc (l : List UInt8) (b : UInt8) : natW (l ++ [b]) = natW l * 256 + b.toNat := by
  unfold natW
  rw [List.foldl_append]
  rfl
theorem wordI_app (l : List UInt8) (b : UInt8) : wordI (l ++ [b]) = wordS (wordI l) b := by
  unfold wordI
  rw [List.foldl_append]
  rfl
theorem wrap_nat (n : Nat) (h : n < 9223372036854775808) : IntKind.i64.wrap (n : Int) = n := by rw [IntKind.wrap_i64]; omega
theorem wrap64_nat (n : Nat) (h : n < 9223372036854775808) : wrap64 (n : Int) = n := by
  unfold wrap64
  omega
theorem wrap64_nat2 (n : Nat) (h : n < 36028797018963968) : wrap64 ((n : Int) * 256) = (n : Int) * 256 := by
  unfold wrap64
  omega
theorem or_small {x y : Nat} (hx : x < 36028797018963968) (hy : y < 256) : bits .or .i64 ((x : Int) * 256) (y : Int) = ((x * 256 + y : Nat) : Int) := by
  have e : ∀ n : Nat, n < 18446744073709551616 → (BitVec.ofInt 64 (n : Int)).toNat = n := fun n hn => by
    rw [BitVec.toNat_ofInt]
    omega
  rw [show (x : Int) * 256 = ((x * 256 : Nat) : Int) by omega]
  show IntKind.i64.wrap ((BitVec.ofInt 64 ((x * 256 : Nat) : Int) ||| BitVec.ofInt 64 (y : Int)).toNat : Int) = _
  have h8 := Nat.two_pow_add_eq_or_of_lt (i := 8) (b := y) (by omega) x
  rw [BitVec.toNat_or, e _ (by omega), e y (by omega), show x * 256 = 2 ^ 8 * x by omega, ← h8]
  exact wrap_nat _ (by omega)
theorem wordI_nat : ∀ (n : Nat) (l : List UInt8), l.length = n → natW l < 72057594037927936 → wordI l = (natW l : Int)
  | 0, l, hn, _ => by
    obtain rfl := List.eq_nil_of_length_eq_zero hn
    rfl
  | n + 1, l, hn, hw => by
    obtain ⟨r, b, rfl⟩ : ∃ r b, l = r ++ [b] := by
      rcases List.eq_nil_or_concat l with rfl | ⟨r, b, h⟩
      · simp at hn
      · exact ⟨r, b, by rw [h, List.concat_eq_append]⟩
    have hr : r.length = n := by simpa using hn
    rw [natW_snoc] at hw ⊢
    have hb : b.toNat < 256 := b.toNat_lt
    have ih := wordI_nat n r hr (by omega)
    rw [wordI_app, ih]
    unfold wordS
    rw [wrap64_nat2 (natW r) (by omega), wrap64_nat _ (by omega)]
    exact or_small (by omega) hb
theorem beL_snoc (x : Nat) : ∀ s, beL x (s + 1) = beL (x / 256) s ++ [UInt8.ofNat x]
  | 0 => by simp [beL]
  | s + 1 => by
    have ih := beL_snoc x s
    rw [beL, ih]
    show _ = UInt8.ofNat (x / 256 / 256 ^ s) :: beL (x / 256) s ++ [UInt8.ofNat x]
    rw [Nat.div_div_eq_div_mul, ← Nat.pow_succ']
    rfl
theorem natW_beL : ∀ (s x : Nat), natW (beL x s) = x % 256 ^ s
  | 0, x => by simp [natW, beL, Nat.mod_one]
  | s + 1, x => by
    have e : 256 ^ (s + 1) = 256 * 256 ^ s := Nat.pow_succ'
    rw [beL_snoc, natW_snoc, natW_beL s (x / 256), UInt8.toNat_ofNat', e, Nat.mod_mul]
    omega
theorem word_beL {x s : Nat} (h : x < 256 ^ s) (h2 : x < 72057594037927936) : wordI (beL x s) = (x : Int) := by
  have e : natW (beL x s) = x := by rw [natW_beL, Nat.mod_eq_of_lt h]
  have := wordI_nat _ (beL x s) rfl (by rw [e]; exact h2)
  rw [this, e]
end Go.Proofs.Ytogjdfiimflbaaa
