/-
  The walks of crc.More, crc.Sum. Conditions: the slices read as lists of bytes; the table half reads as the text lays it.
-/
import Derived.Test.YtenhjnicadjbaaaDoorCrcPlain
namespace Go.Proofs.YtenhjnicadjbaaaDoor
open Go Go.RowKit

def HalfAt (w : World) : Prop := 0 < w.heap.size ∧ ∀ i, i < 16 → w.cell? ⟨0, i, none⟩ = some (.int .u32 (halfN i : Nat))

/-- a slice of slices of bytes that reads as ls, below block B -/
def RowsAt (w : World) (B : Nat) (A : Option Addr) (ls : List (List UInt8)) : Prop :=
  0 < ls.length → ∃ ad, A = some ad ∧ ad.block < B ∧ ∀ i (h : i < ls.length), ∃ Ai ci, w.cell? (ad.add i) = some (.slice Ai ls[i].length ci) ∧ ls[i].length ≤ ci ∧ BytesAt w B Ai ls[i]

theorem stN_oct (r : Nat) (l : List UInt8) (m : Nat) (h : m < l.length) : nibN (nibN (stN r (l.take m) ^^^ l[m].toNat)) = stN r (l.take (m + 1)) := by
  rw [stN_take r l m h, octN_nib]; rfl
theorem flat_take (ls : List (List UInt8)) (k : Nat) (h : k < ls.length) : (ls.take (k + 1)).flatten = (ls.take k).flatten ++ ls[k] := by
  rw [List.take_succ_eq_append_getElem h, List.flatten_append, List.flatten_singleton]

def moreN (s : Nat) (l : List UInt8) : Nat := stN (s ^^^ 4294967295) l ^^^ 4294967295
theorem moreN_lt {s : Nat} (l : List UInt8) (h : s < 4294967296) : moreN s l < 4294967296 := xor_lt32 (stN_lt l (xor_lt32 h (by decide))) (by decide)
theorem moreN_zero (l : List UInt8) : moreN 0 l = crcN l := by unfold moreN crcN; rw [Nat.zero_xor]

set_option maxHeartbeats 400000 in
theorem more_any (ls : List (List UInt8)) (A : Option Addr) (n c : Nat) (B : Nat) (s : Nat) (w : World) (hn : n = ls.length) (hl : ls.length ≤ 1099511627776)
    (hlx : ∀ l ∈ ls, l.length ≤ 1099511627776) (hs : s < 4294967296) (hA : RowsAt w B A ls) (hh : HalfAt w) :
    Calls Tryd.prog 16 #[.int .u32 s, .slice A n c] w fun e w' => e = .returned (.int .u32 (moreN s ls.flatten : Nat)) ∧ w = w' := by
  subst hn
  have hX := hide hlx
  clear hlx
  have h0 := comp32 hs
  have hsg := sg32
  have hs' := xor_lt32 hs (b := 4294967295) (by decide)
  have HM : Hid (∀ l, moreN s l = stN (s ^^^ 4294967295) l ^^^ 4294967295) := fun _ => rfl
  generalize s ^^^ 4294967295 = s' at *
  go_enter Tryd.func16, Tryd.ntmps16
  go_wp2
  clear h0
  go_loop [5, 14] (fun r i => ∃ k : Nat, k ≤ ls.length ∧ i = .int .i64 k ∧ r = .int .u32 (stN s' (ls.take k).flatten : Nat)) (fun _ i => ls.length - (intOf i).toNat)
  case atStart => exact ⟨0, Nat.zero_le _, rfl, rfl⟩
  case round =>
    obtain ⟨k, hk, rfl, rfl⟩ := hrel
    have hst := stN_lt (ls.take k).flatten hs'
    by_cases hlt : k < ls.length
    · obtain ⟨ad, rfl, hb, hc⟩ := hA (by omega)
      obtain ⟨Ai, ci, hci, hlen, hbs⟩ := hc k hlt
      clear hc
      have hlk := unhide hX ls[k] (List.getElem_mem hlt)
      have HF := Lib.hid (flat_take ls k hlt)
      have HS : Hid (∀ l', stN s' ((ls.take k).flatten ++ l') = stN (stN s' (ls.take k).flatten) l') := fun l' => stN_append _ _ _
      generalize stN s' (List.take k ls).flatten = z at *
      generalize ls[k] = l at *
      go_wp2
      go_loop [5, 20] (fun r j => ∃ m : Nat, m ≤ l.length ∧ j = .int .i64 m ∧ r = .int .u32 (stN z (l.take m) : Nat)) (fun _ j => l.length - (intOf j).toNat)
      case atStart => exact ⟨0, Nat.zero_le _, rfl, rfl⟩
      case round =>
        obtain ⟨m, hm, rfl, rfl⟩ := hrel
        have hx := stN_lt (l.take m) hst
        by_cases hlt : m < l.length
        · obtain ⟨ae, rfl, hb, hc⟩ := BytesAt.at_ hbs hlt
          have hbt := l[m].toNat_lt
          have HO := Lib.hid (stN_oct z l m hlt)
          have hx1 := u32x hx (b := l[m].toNat) (by omega)
          have hy := xor_lt32 hx (b := l[m].toNat) (by omega)
          generalize stN z (List.take m l) ^^^ l[m].toNat = y at *
          have ha1 := and15 hy
          have hc1 := hh.2 (y % 16) (by omega)
          have hi1 : y % 16 < 16 := by omega
          have hn1 := nib_bits hy
          have hy2 := nibN_lt hy
          generalize nibN y = y2 at *
          have ha2 := and15 hy2
          have hc2 := hh.2 (y2 % 16) (by omega)
          have hi2 : y2 % 16 < 16 := by omega
          have hn2 := nib_bits hy2
          clear hh
          go_wp2
          go_round
          case rel => exact ⟨m + 1, by omega, by go_num, val_u32 (by rw [HO.out])⟩
          case measure => simp [intOf]; omega
        · obtain rfl : m = l.length := by omega
          go_wp2
          go_round
          case rel => exact ⟨k + 1, by omega, by go_num, val_u32 (by rw [HF.out, HS.out, List.take_length])⟩
          case measure => simp [intOf]; omega
    · have HX : Hid (bits .xor .u32 IntKind.u32.max ((stN s' (ls.take k).flatten : Nat) : Int) = ((moreN s ls.flatten : Nat) : Int)) := by
        rw [comp32 hst, List.take_of_length_le (by omega), HM.out]; exact rfl
      generalize stN s' (ls.take k).flatten = y at *
      go_wp2
      go_ret
      exact ⟨ret_u32 HX.out, rfl⟩

set_option maxHeartbeats 400000 in
theorem sum_any (ls : List (List UInt8)) (A : Option Addr) (n c : Nat) (B : Nat) (w : World) (hn : n = ls.length) (hl : ls.length ≤ 1099511627776)
    (hlx : ∀ l ∈ ls, l.length ≤ 1099511627776) (hA : RowsAt w B A ls) (hh : HalfAt w) :
    Calls Tryd.prog 15 #[.slice A n c] w fun e w' => e = .returned (.int .u32 (crcN ls.flatten : Nat)) ∧ w = w' := by
  subst hn
  have hm := fun (W : World) (h1 : RowsAt W B A ls) (h2 : HalfAt W) => more_any ls A ls.length c B 0 W rfl hl hlx (by decide) h1 h2
  have HM := hide hm
  have H1 := hide hA
  have H2 := hide hh
  clear hm hlx hA hh
  go_enter Tryd.func15, Tryd.ntmps15
  go_wp2_with fail
  refine (unhide HM _ (unhide H1) (unhide H2)).mono ?_
  rintro e w' ⟨rfl, rfl⟩
  go_wp2
  go_ret
  exact ⟨ret_u32 (by rw [moreN_zero]), rfl⟩
end Go.Proofs.YtenhjnicadjbaaaDoor
