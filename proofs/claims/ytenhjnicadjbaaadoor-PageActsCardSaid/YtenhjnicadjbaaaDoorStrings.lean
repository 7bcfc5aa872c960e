/-
  Octets as a string: the conversion, and equality. Conditions: the slice reads as a list of bytes.
-/
import Derived.Test.YtenhjnicadjbaaaDoorCrcAwake
namespace Go.Proofs.YtenhjnicadjbaaaDoor
open Go Go.RowKit

def strOf (l : List UInt8) : ByteArray := ⟨l.toArray⟩
theorem strOf_inj {a b : List UInt8} (h : strOf a = strOf b) : a = b := by
  have := congrArg (fun x => x.data.toList) h
  simpa [strOf] using this
theorem conv_str {w : World} {B : Nat} {A : Option Addr} {l : List UInt8} (n c : Nat) (hn : n = l.length) (h : BytesAt w B A l) : (convert 23 9 (.slice A n c)).run Tryd.prog w = .ok (.string (strOf l)) w := by
  subst hn
  rw [run_convert_bytes_string w _ _ _ A l.length c Tryd.underlying23 Tryd.underlying5 Tryd.underlying9]
  cases A with
  | none =>
    have h0 : l.length = 0 := by
      rcases Nat.eq_zero_or_pos l.length with h0 | h0
      · exact h0
      · obtain ⟨ad, e, _⟩ := BytesAt.at_ h h0
        cases e
    have : l = [] := List.eq_nil_of_length_eq_zero h0
    subst this
    simp [Conv.bytesToString, strOf]
    rfl
  | some ad =>
    have hcell : ∀ j u, (byts l)[j]? = some u → w.cell? (ad.add j) = some u := fun j u hu => by
      have hj : j < l.length := by simpa [byts] using (List.getElem?_eq_some_iff.1 hu).1
      obtain ⟨ad', e, _, hc⟩ := BytesAt.at_ h hj
      cases e
      rw [hc, ← hu, byts_get hj]
    have hl : (loadCells ad l.length).run Tryd.prog w = .ok ((l.map fun b => (b.toNat : Int)).map (Value.int .u8)).toArray w := by
      have := run_loadCells_list (P := Tryd.prog) w ad (byts l) hcell
      rw [byts_length] at this
      rw [this]
      simp [byts, Function.comp_def]
    rw [run_bytesToString w ad l.length c _ hl, foldl_push_bytes]
    congr 2
    have e : (l.map fun b => (b.toNat : Int)).map (fun n => UInt8.ofNat n.toNat) = l := by
      rw [List.map_map]
      conv => rhs; rw [← List.map_id l]
      apply List.map_congr_left
      intro b _
      simp [UInt8.ofNat_toNat]
    rw [e]
    simp [strOf, ByteArray.empty, ByteArray.emptyWithCapacity]
    rfl
end Go.Proofs.YtenhjnicadjbaaaDoor
