/-
  The walk of icehouseref12.Sum. Condition: the slice reads as a list of bytes of at most 2^40.
-/
import Derived.Test.YtenhjnicadjbaaaDoorCrcPlain
namespace Go.Proofs.YtenhjnicadjbaaaDoor
open Go Go.RowKit

set_option maxHeartbeats 400000 in
theorem refSum_any (l : List UInt8) (A : Option Addr) (n c : Nat) (B : Nat) (w : World) (hn : n = l.length) (hl : l.length ≤ 1099511627776) (hA : BytesAt w B A l) :
    Calls Tryd.prog 14 #[.slice A n c] w fun e w' => e = .returned (.int .u32 (crcN l : Nat)) ∧ w = w' := by
  subst hn
  go_enter Tryd.func14, Tryd.ntmps14
  go_wp2
  go_loop [3, 4, 5] (fun r i _ => ∃ k : Nat, k ≤ l.length ∧ i = .int .i64 k ∧ r = .int .u32 (stN 4294967295 (l.take k) : Nat)) (fun _ i _ => l.length - (intOf i).toNat)
  case atStart => exact ⟨0, Nat.zero_le _, rfl, rfl⟩
  case round =>
    obtain ⟨k, hk, rfl, rfl⟩ := hrel
    by_cases hlt : k < l.length
    · obtain ⟨ad, rfl, hb, hc⟩ := hA.at_ hlt
      have hbt := l[k].toNat_lt
      have hst := stN_lt (l.take k) (r := 4294967295) (by decide)
      have hx := u32x hst (b := l[k].toNat) (by omega)
      have hy := xor_lt32 hst (b := l[k].toNat) (by omega)
      have HT := Lib.hid (stN_take 4294967295 l k hlt)
      generalize stN 4294967295 (List.take k l) ^^^ l[k].toNat = y at *
      go_wp2
      clear hx
      go_loop [3, 5] (fun r j => ∃ m : Nat, m ≤ 8 ∧ j = .int .i64 m ∧ r = .int .u32 (itN m y : Nat)) (fun _ j => 8 - (intOf j).toNat)
      case atStart => exact ⟨0, by omega, rfl, rfl⟩
      case round =>
        obtain ⟨m, hm, rfl, rfl⟩ := hrel
        have hz := itN_lt hy m
        have HS : Hid (itN (m + 1) y = bitN (itN m y)) := rfl
        have HE : Hid (m = 8 → itN m y = itN 8 y) := fun h => by rw [h]
        generalize itN m y = z at *
        by_cases h8 : m < 8
        · by_cases ho : z % 2 = 1
          · have HB := Lib.hid (bit_odd hz ho)
            have ho2 : ((z : Int) % 2 == 1) = true := beq_iff_eq.2 (by omega)
            clear ho
            go_wp2
            go_round
            case rel => exact ⟨m + 1, by omega, by go_num, val_u32 (by rw [HB.out, HS.out])⟩
            case measure => simp [intOf]; omega
          · have HB := Lib.hid (bit_even ho)
            have ho2 : ((z : Int) % 2 == 1) = false := beq_eq_false_iff_ne.2 (by omega)
            clear ho
            go_wp2
            go_round
            case rel => exact ⟨m + 1, by omega, by go_num, val_u32 (by rw [HB.out, HS.out])⟩
            case measure => simp [intOf]; omega
        · go_wp2
          go_round
          case rel => exact ⟨k + 1, by omega, by go_num, val_u32 (by rw [HT.out, HE.out (by omega)])⟩
          case measure => simp [intOf]; omega
    · have HX : Hid (bits .xor .u32 ((stN 4294967295 (l.take k) : Nat) : Int) 4294967295 = ((crcN l : Nat) : Int)) := by
        rw [List.take_of_length_le (by omega)]
        exact u32x (stN_lt l (by decide)) (by decide)
      generalize stN 4294967295 (l.take k) = y at *
      go_wp2
      go_ret
      exact ⟨ret_u32 HX.out, rfl⟩
end Go.Proofs.YtenhjnicadjbaaaDoor
