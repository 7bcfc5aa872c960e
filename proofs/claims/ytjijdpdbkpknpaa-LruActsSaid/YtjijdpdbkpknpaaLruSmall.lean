/-
  The walks of lru's smallest functions: Cost, a key's find, keys, Used. Conditions: the values read as their data say.
-/
import Derived.Test.YtjijdpdbkpknpaaLruMem
namespace Go.Proofs.Ytjijdpdbkpknpaa
open Go Go.RowKit

set_option maxRecDepth 100000 in
set_option maxHeartbeats 1000000 in
theorem cost_any (h : Hd) (l : Loc) (B : Nat) (w : World) (hf : Reads w B 2 l.af h.fields.length (flds h.fields)) (hB : B ≤ w.heap.size) (hl : h.fields.length ≤ 1000) (hc : costN h ≤ 1152921504606846976) :
    Calls Try.prog 19 #[.agg (hcs h l).toArray] w fun e w' => e = .returned (.int .i64 (costN h : Nat)) ∧ Below w.heap.size w w' := by
  have c0 : (hcs h l).toArray[0]? = some (.string h.key) := rfl
  have c9 : (hcs h l).toArray[9]? = some (.slice l.af h.fields.length l.cf) := rfl
  have c16 : (hcs h l).toArray[16]? = some (.slice l.ay h.bytes.length l.cy) := rfl
  have hct : costN h = 64 + h.key.size + h.bytes.length + fcost h.fields := rfl
  have HC := hide hct
  have b1 : h.key.size + h.bytes.length + fcost h.fields ≤ 1152921504606846976 := by omega
  have HF := hide hf
  clear hct hf
  generalize (hcs h l).toArray = cs at *
  generalize costN h = C at *
  generalize h.fields = fs at *
  generalize l.af = af at *
  generalize h.bytes.length = nb at *
  generalize h.key = key at *
  go_enter Try.func19, Try.ntmps19
  go_wp2_with fail
  go_loopw [3, 18] (fun n i wr => ∃ k : Nat, k ≤ fs.length ∧ i = .int .i64 k ∧ n = .int .i64 ((64 + key.size + nb + fcost (fs.take k) : Nat) : Int) ∧ Below w.heap.size w wr) (fun _ i _ => fs.length - (intOf i).toNat)
  case atStart => exact ⟨0, Nat.zero_le _, rfl, by simp [fcost], (Below.refl _ _).alloc (Nat.le_refl _) _⟩
  case round =>
    obtain ⟨k, hk, rfl, rfl, hbe⟩ := hrel
    have hz := fcost_take fs k
    by_cases hlt : k < fs.length
    · obtain ⟨ad, rfl, hb, hcell⟩ := (unhide HF).2 (by omega)
      obtain ⟨g1, g2⟩ := flds_get fs k hlt
      have HS := Lib.hid (fcost_snoc fs k hlt)
      have hz2 := fcost_take fs (k + 1)
      rw [fcost_snoc fs k hlt] at hz2
      have q1 : wr.cell? ((ad.add (k * 2)).add 0) = some (.string fs[k].1) := by
        rw [add_of_add]
        exact (hbe.cell (by rw [block_of_add]; omega)).trans (hcell _ _ g1)
      have q2 : wr.cell? ((ad.add (k * 2)).add 1) = some (.string fs[k].2) := by
        rw [add_of_add]
        exact (hbe.cell (by rw [block_of_add]; omega)).trans (hcell _ _ g2)
      have hlo : (Instr.loadAt 101 (.pointer (some (ad.add (k * 2))))).run Try.prog wr = .ok (.agg #[.string fs[k].1, .string fs[k].2]) wr := by
        refine run_loadAt_ad wr _ _ [.string fs[k].1, .string fs[k].2] _ (fun j v hv => ?_) Try.underlying101 rfl (by rw [fld_info]; rfl)
        match j, hv with
        | 0, hv => simp at hv; rw [q1, hv]
        | 1, hv => simp at hv; rw [q2, hv]
        | j + 2, hv => simp at hv
      have HL := hide hlo
      clear hlo q1 q2 g1 g2 hcell
      generalize fs[k] = e at *
      obtain ⟨ea, eb⟩ := e
      have i1 : (0 : Int) ≤ (k : Int) := by omega
      generalize fcost (fs.take k) = z at *
      have hz3 : z + (ea.size + eb.size) ≤ fcost fs := hz2
      clear hz2
      go_wp2_with (with_reducible refine wpList_load_run rfl 101 (.tmp 20) rfl HL.out rfl ?_)
      go_roundw
      case rel => exact ⟨k + 1, by omega, by go_num, by rw [HS.out]; go_num, hbe.alloc hbe.size _⟩
      case measure => simp [intOf]; omega
    · rw [List.take_of_length_le (by omega)]
      go_wp2
      go_ret
      exact ⟨by rw [HC.out]; rfl, hbe⟩

/-! where a key is -/
def atK (k : ByteArray) : List Hd → Nat
  | [] => 0
  | h :: r => if h.key = k then 0 else atK k r + 1
def idxI (k : ByteArray) (l : List Hd) : Int := if atK k l < l.length then (atK k l : Int) else -1
theorem atK_le (k : ByteArray) : ∀ (l : List Hd), atK k l ≤ l.length
  | [] => Nat.le_refl _
  | h :: r => by
    unfold atK
    have := atK_le k r
    split <;> simp <;> omega
theorem atK_eq (k : ByteArray) : ∀ (l : List Hd) (j : Nat) (hj : j < l.length), (∀ i (h : i < l.length), i < j → l[i].key ≠ k) → l[j].key = k → atK k l = j
  | [], j, hj, _, _ => absurd hj (by simp)
  | h :: r, 0, _, _, he => by simp at he; simp [atK, he]
  | h :: r, j + 1, hj, hn, he => by
    have h0 : h.key ≠ k := hn 0 (by simp) (by omega)
    have := atK_eq k r j (by simpa using hj) (fun i hi hij => hn (i + 1) (by simpa using hi) (by omega)) (by simpa using he)
    simp [atK, h0, this]
theorem atK_none (k : ByteArray) : ∀ (l : List Hd), (∀ i (h : i < l.length), l[i].key ≠ k) → atK k l = l.length
  | [], _ => rfl
  | h :: r, hn => by
    have h0 : h.key ≠ k := hn 0 (by simp)
    have := atK_none k r (fun i hi => hn (i + 1) (by simpa using hi))
    simp [atK, h0, this]

theorem ba_beq (a b : ByteArray) : (a.toList == b.toList) = decide (a = b) := by
  by_cases h : a = b
  · rw [h, decide_eq_true rfl]
    simp
  · rw [decide_eq_false h]
    rw [beq_eq_false_iff_ne]
    intro e
    rw [ByteArray.toList_eq, ByteArray.toList_eq] at e
    exact h (ByteArray.ext (Array.toList_inj.mp e))

theorem iskey_any (h : Hd) (l : Loc) (k : ByteArray) (p : Nat) (w : World) (hp : w.cell? ⟨p, 0, none⟩ = some (.string k)) :
    Calls Try.prog 74 #[.agg (hcs h l).toArray, .pointer (some ⟨p, 0, none⟩)] w fun e w' => e = .returned (.bool (decide (h.key = k))) ∧ Below w.heap.size w w' := by
  have c0 : (hcs h l).toArray[0]? = some (.string h.key) := rfl
  generalize (hcs h l).toArray = cs at *
  generalize h.key = key at *
  have hq : (w.alloc (.cells cs 40)).cell? ⟨p, 0, none⟩ = some (.string k) := cellO hp
  go_enter Try.func74, Try.ntmps74
  go_wp2
  go_ret
  refine ⟨?_, (Below.refl _ _).alloc (Nat.le_refl _) _⟩
  show Ending.returned (.bool (key.toList == k.toList)) = _
  rw [ba_beq]

theorem row_cells {w : World} {B : Nat} {ad : Addr} {L : List (Hd × Loc)} {n : Nat} (hA : Reads w B 17 (some ad) n (hrow L)) (k : Nat) (hk : k < L.length) (hn : n = L.length) : ∀ j v, (hcs L[k].1 L[k].2)[j]? = some v → w.cell? ((ad.add (k * 17)).add j) = some v := fun j v hv => by
  obtain ⟨ad', e, _, hc⟩ := hA.2 (by omega)
  cases e
  rw [add_of_add]
  exact hc _ _ (hrow_get L k hk j v hv)

set_option maxRecDepth 100000 in
set_option maxHeartbeats 1000000 in
theorem ixf_any (k : ByteArray) (L : List (Hd × Loc)) (A : Option Addr) (n c B p : Nat) (w : World) (hn : n = L.length) (hl : L.length ≤ 1000000) (hB : B ≤ w.heap.size) (hA : Reads w B 17 A n (hrow L)) (hp : w.cell? ⟨p, 0, none⟩ = some (.string k)) :
    Calls Try.prog 73 #[.slice A n c, .func (.func 74) #[] #[.pointer (some ⟨p, 0, none⟩)]] w fun e w' => e = .returned (.int .i64 (idxI k (L.map (·.1)))) ∧ Below w.heap.size w w' := by
  subst hn
  have HA := hide hA
  have HP := hide hp
  clear hA hp
  have hpl : p < w.heap.size := World.block_lt_of_cell? w _ HP.out
  go_enter Try.func73, Try.ntmps73
  go_wp2_with fail
  go_loopw [8] (fun i wr => ∃ j : Nat, j ≤ L.length ∧ i = .int .i64 j ∧ (∀ i (h : i < L.length), i < j → L[i].1.key ≠ k) ∧ Below w.heap.size w wr) (fun i _ => L.length - (intOf i).toNat)
  case atStart => exact ⟨0, Nat.zero_le _, rfl, fun i h h0 => absurd h0 (by omega), Below.refl _ _⟩
  case round =>
    obtain ⟨j, hj, rfl, hno, hbe⟩ := hrel
    have HN := hide hno
    clear hno
    by_cases hlt : j < L.length
    · obtain ⟨ad, rfl, hb, hxx⟩ := (unhide HA).2 (by omega)
      clear hxx
      have HL := hide (load_held wr (ad.add (j * 17)) L[j].1 L[j].2 (fun i v hv => (hbe.cell (by rw [block_of_add, block_of_add]; omega)).trans (row_cells HA.out j hlt rfl i v hv)))
      have HE : Hid (L[j].1.key = k → atK k (L.map (·.1)) = j) := fun e => atK_eq k _ j (by simpa using hlt) (fun i h hij => by simpa using HN.out i (by simpa using h) hij) (by simpa using e)
      have HX : Hid (L[j].1.key ≠ k → ∀ i (h : i < L.length), i < j + 1 → L[i].1.key ≠ k) := fun e i h hij => by
        by_cases hi : i = j
        · subst hi; exact e
        · exact HN.out i h (by omega)
      have HP2 : Hid (wr.cell? ⟨p, 0, none⟩ = some (.string k)) := (hbe.cell (p := ⟨p, 0, none⟩) hpl).trans HP.out
      have HC := hide (iskey_any L[j].1 L[j].2 k p wr HP2.out)
      generalize L[j].1 = h at *
      generalize L[j].2 = l at *
      have i1 : (0 : Int) ≤ (j : Int) := by omega
      have i2 : (j : Int) < (L.length : Int) := by omega
      go_wp2_with (with_reducible refine wpList_load_run rfl 40 (.tmp 14) rfl HL.out rfl ?_)
      refine (unhide HC).mono ?_
      rintro e w' ⟨rfl, hb2⟩
      have HB2 := hide (hbe.trans (hb2.mono hbe.size))
      clear hb2 HC HL HP2
      by_cases hk : h.key = k
      · have hd : decide (h.key = k) = true := by simpa using hk
        have HK := hide (HE.out hk)
        clear hk
        go_wp2
        go_ret
        refine ⟨?_, HB2.out⟩
        unfold idxI
        rw [HK.out, if_pos (by simpa using hlt)]
        rfl
      · have hd : decide (h.key = k) = false := by simpa using hk
        have HK := hide (HX.out hk)
        clear hk
        go_wp2
        go_roundw
        case rel => exact ⟨j + 1, by omega, by go_num, HK.out, HB2.out⟩
        case measure => simp [intOf]; omega
    · have HK := hide (atK_none k (L.map (·.1)) (fun i h => by
        have h' : i < L.length := by simpa using h
        simpa using HN.out i h' (by omega)))
      go_wp2
      go_ret
      refine ⟨?_, hbe⟩
      unfold idxI
      rw [HK.out, if_neg (by simp)]
      rfl

end Go.Proofs.Ytjijdpdbkpknpaa
