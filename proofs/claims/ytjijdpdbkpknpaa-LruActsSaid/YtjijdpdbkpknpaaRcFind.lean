/-
  The walks of the document's cache's smallest functions: at, cut, Cost, cost, Keys. Conditions: the values read as their data say.
-/
import Derived.Test.YtjijdpdbkpknpaaRcMem
namespace Go.Proofs.Ytjijdpdbkpknpaa
open Go Go.RowKit

set_option maxRecDepth 100000 in
set_option maxHeartbeats 1000000 in
theorem rat_any (k : ByteArray) (L : List (Hd × Loc)) (A : Option Addr) (n c B : Nat) (w : World) (hn : n = L.length) (hl : L.length ≤ 1000000) (hB : B ≤ w.heap.size) (hA : Reads w B 17 A n (hrow L)) :
    Calls Try.prog 45 #[.slice A n c, .string k] w fun e w' => e = .returned (.int .i64 (idxI k (hds L))) ∧ Below w.heap.size w w' := by
  subst hn
  have HA := hide hA
  clear hA
  go_enter Try.func45, Try.ntmps45
  go_wp2_with fail
  go_loopw [5] (fun i wr => ∃ j : Nat, j ≤ L.length ∧ i = .int .i64 j ∧ (∀ i (h : i < L.length), i < j → L[i].1.key ≠ k) ∧ Below w.heap.size w wr) (fun i _ => L.length - (intOf i).toNat)
  case atStart => exact ⟨0, Nat.zero_le _, rfl, fun i h h0 => absurd h0 (by omega), Below.refl _ _⟩
  case round =>
    obtain ⟨j, hj, rfl, hno, hbe⟩ := hrel
    have HN := hide hno
    clear hno
    by_cases hlt : j < L.length
    · obtain ⟨ad, rfl, hb, hxx⟩ := (unhide HA).2 (by omega)
      clear hxx
      have q0 : wr.cell? (ad.add (j * 17)) = some (.string L[j].1.key) := by
        have := (hbe.cell (p := (ad.add (j * 17)).add 0) (by rw [block_of_add, block_of_add]; omega)).trans (row_cells HA.out j hlt rfl 0 _ rfl)
        rwa [Addr.add_zero'] at this
      have HE : Hid (L[j].1.key = k → atK k (hds L) = j) := fun e => atK_eq k _ j (by rw [hds_len]; exact hlt) (fun i h hij => by
        have h' : i < L.length := by rw [hds_len] at h; exact h
        rw [hds_get L i h']
        exact HN.out i h' hij) (by rw [hds_get L j hlt]; exact e)
      have HX : Hid (L[j].1.key ≠ k → ∀ i (h : i < L.length), i < j + 1 → L[i].1.key ≠ k) := fun e i h hij => by
        by_cases hi : i = j
        · subst hi; exact e
        · exact HN.out i h (by omega)
      generalize L[j].1.key = key at *
      have i1 : (0 : Int) ≤ (j : Int) := by omega
      have i2 : (j : Int) < (L.length : Int) := by omega
      by_cases hk : key = k
      · have hd : (key.toList == k.toList) = true := by rw [ba_beq]; simpa using hk
        have HK := hide (HE.out hk)
        clear hk
        go_wp2
        go_ret
        refine ⟨?_, hbe⟩
        unfold idxI
        rw [HK.out, if_pos (by rw [hds_len]; exact hlt)]
        rfl
      · have hd : (key.toList == k.toList) = false := by rw [ba_beq]; simpa using hk
        have HK := hide (HX.out hk)
        clear hk
        go_wp2
        go_roundw
        case rel => exact ⟨j + 1, by omega, by go_num, HK.out, hbe⟩
        case measure => simp [intOf]; omega
    · have HK := hide (atK_none k (hds L) (fun i h => by
        have h' : i < L.length := by rw [hds_len] at h; exact h
        rw [hds_get L i h']
        exact HN.out i h' (by omega)))
      go_wp2
      go_ret
      refine ⟨?_, hbe⟩
      unfold idxI
      rw [HK.out, if_neg (by omega)]
      rfl

set_option maxRecDepth 100000 in
set_option maxHeartbeats 1000000 in
theorem rcost_any (h : Hd) (l : Loc) (B : Nat) (w : World) (hf : Reads w B 2 l.af h.fields.length (flds h.fields)) (hB : B ≤ w.heap.size) (hl : h.fields.length ≤ 1000) (hc : costN h ≤ 1152921504606846976) :
    Calls Try.prog 20 #[.agg (hcs h l).toArray] w fun e w' => e = .returned (.int .i64 (costN h : Nat)) ∧ Below w.heap.size w w' := by
  have HHB : Hid (Blk (w.alloc (.cells (hcs h l).toArray 40)) w.heap.size 40 (hcs h l).toArray) := Blk.new _ _ _
  have HW : Hid (Below w.heap.size w (w.alloc (.cells (hcs h l).toArray 40))) := (Below.refl _ _).alloc (Nat.le_refl _) _
  have HC0 : Hid (∀ x, Below (w.heap.size + 1) (w.alloc (.cells (hcs h l).toArray 40)) x → x.cell? ⟨w.heap.size, 0, none⟩ = some (.string h.key) ∧ x.cell? ⟨w.heap.size, 9, none⟩ = some (.slice l.af h.fields.length l.cf) ∧ x.cell? ⟨w.heap.size, 16, none⟩ = some (.slice l.ay h.bytes.length l.cy)) := fun x hx => by
    have hb := HHB.out.below hx (by omega)
    exact ⟨hb.cell 0, hb.cell 9, hb.cell 16⟩
  have hct : costN h = 64 + h.key.size + h.bytes.length + fcost h.fields := rfl
  have HC := hide hct
  have b1 : h.key.size + h.bytes.length + fcost h.fields ≤ 1152921504606846976 := by omega
  have HF := hide hf
  clear hct hf HHB
  generalize costN h = C at *
  generalize h.fields = fs at *
  generalize l.af = af at *
  generalize h.bytes.length = nb at *
  generalize h.key = key at *
  have hs1 : (w.alloc (.cells (hcs h l).toArray 40)).heap.size = w.heap.size + 1 := by simp
  obtain ⟨W1, hA1⟩ : ∃ W1, w.alloc (.cells (hcs h l).toArray 40) = W1 := ⟨_, rfl⟩
  rw [hA1] at HW HC0 hs1
  obtain ⟨q0, q9, q16⟩ := HC0.out W1 (Below.refl _ _)
  go_enter Try.func20, Try.ntmps20
  go_wp2_with fail
  clear q0 q9 q16
  go_loopw [3, 4] (fun n i wr => ∃ k : Nat, k ≤ fs.length ∧ i = .int .i64 k ∧ n = .int .i64 ((64 + key.size + nb + fcost (fs.take k) : Nat) : Int) ∧ Below (w.heap.size + 1) W1 wr) (fun _ i _ => fs.length - (intOf i).toNat)
  case atStart => exact ⟨0, Nat.zero_le _, rfl, by simp [fcost], Below.refl _ _⟩
  case round =>
    obtain ⟨k, hk, rfl, rfl, hbe⟩ := hrel
    have hz := fcost_take fs k
    obtain ⟨q0, q9, q16⟩ := HC0.out wr hbe
    have HBE : Hid (Below w.heap.size w wr) := HW.out.trans (hbe.mono (by omega))
    by_cases hlt : k < fs.length
    · obtain ⟨ad, rfl, hb, hcell⟩ := (unhide HF).2 (by omega)
      obtain ⟨g1, g2⟩ := flds_get fs k hlt
      have HS := Lib.hid (fcost_snoc fs k hlt)
      have hz2 := fcost_take fs (k + 1)
      rw [fcost_snoc fs k hlt] at hz2
      have r1 : wr.cell? (ad.add (k * 2)) = some (.string fs[k].1) := (HBE.out.cell (by rw [block_of_add]; omega)).trans (hcell _ _ g1)
      have r2 : wr.cell? (ad.add (k * 2 + 1)) = some (.string fs[k].2) := (HBE.out.cell (by rw [block_of_add]; omega)).trans (hcell _ _ g2)
      have r3 : wr.cell? ⟨(ad.add (k * 2)).block, (ad.add (k * 2)).off + 1, none⟩ = some (.string fs[k].2) := by
        have : wr.cell? ((ad.add (k * 2)).add 1) = some (.string fs[k].2) := by rw [add_of_add]; exact r2
        exact this
      clear g1 g2 hcell
      generalize fs[k] = e at *
      obtain ⟨ea, eb⟩ := e
      have i1 : (0 : Int) ≤ (k : Int) := by omega
      have i2 : (k : Int) < (fs.length : Int) := by omega
      generalize fcost (fs.take k) = z at *
      have hz3 : z + (ea.size + eb.size) ≤ fcost fs := hz2
      clear hz2
      go_wp2_with fail
      go_quiet (fail)
      go_wp2
      go_roundw
      case rel => exact ⟨k + 1, by omega, by go_num, by rw [HS.out]; go_num, below_drewN hbe _⟩
      case measure => simp [intOf]; omega
    · rw [List.take_of_length_le (by omega)]
      go_wp2
      go_ret
      exact ⟨by rw [HC.out]; rfl, HBE.out⟩

theorem sumC_take_le (l : List Hd) (k : Nat) : sumC (l.take k) ≤ sumC l := by
  have : sumC l = sumC (l.take k) + sumC (l.drop k) := by
    conv => lhs; rw [← List.take_append_drop k l]
    unfold sumC
    rw [List.map_append, List.sum_append]
  omega
theorem sumC_snoc (l : List Hd) (k : Nat) (h : k < l.length) : sumC (l.take (k + 1)) = sumC (l.take k) + costN l[k] := by
  unfold sumC
  rw [List.take_succ_eq_append_getElem h, List.map_append, List.sum_append]
  simp

set_option maxRecDepth 100000 in
set_option maxHeartbeats 1000000 in
theorem rsum_any (L : List (Hd × Loc)) (A : Option Addr) (n c B B2 : Nat) (w : World) (hn : n = L.length) (hl : L.length ≤ 1000000) (hB : B ≤ w.heap.size) (hA : Reads w B 17 A n (hrow L)) (hB2 : B2 ≤ w.heap.size) (hx : ∀ x ∈ L, HeldD w (fun q => q < B2) x.1 x.2 ∧ x.1.ok) (hs : sumC (hds L) ≤ 1152921504606846976) :
    Calls Try.prog 47 #[.slice A n c] w fun e w' => e = .returned (.int .i64 (sumC (hds L) : Nat)) ∧ Below w.heap.size w w' := by
  subst hn
  have HA := hide hA
  have HX := hide hx
  clear hA hx
  go_enter Try.func47, Try.ntmps47
  go_wp2_with fail
  go_loopw [3, 4] (fun n i wr => ∃ k : Nat, k ≤ L.length ∧ i = .int .i64 k ∧ n = .int .i64 ((sumC ((hds L).take k) : Nat) : Int) ∧ Below w.heap.size w wr) (fun _ i _ => L.length - (intOf i).toNat)
  case atStart => exact ⟨0, Nat.zero_le _, rfl, by simp [sumC], Below.refl _ _⟩
  case round =>
    obtain ⟨k, hk, rfl, rfl, hbe⟩ := hrel
    have HB1 := hide hbe
    have hsz := hbe.size
    clear hbe
    have hz := sumC_take_le (hds L) k
    by_cases hlt : k < L.length
    · obtain ⟨ad, rfl, hb, hxx⟩ := (unhide HA).2 (by omega)
      clear hxx
      have hlt2 : k < (hds L).length := by rw [hds_len]; exact hlt
      have hz2 := sumC_take_le (hds L) (k + 1)
      have HS := hide (sumC_snoc (hds L) k hlt2)
      rw [sumC_snoc (hds L) k hlt2] at hz2
      rw [hds_get L k hlt] at HS hz2
      have HLD := hide (load_held wr (ad.add (k * 17)) L[k].1 L[k].2 (fun i v hv => (HB1.out.cell (by rw [block_of_add, block_of_add]; omega)).trans (row_cells HA.out k hlt rfl i v hv)))
      obtain ⟨hh, hok⟩ := HX.out L[k] (List.getElem_mem hlt)
      have hok5 := hok.2.2.2.2
      have HCO := hide (rcost_any L[k].1 L[k].2 B2 wr ((hh.fields.reads (fun q hq => hq)).below (HB1.out.mono hB2)) (by omega) hok.2.1 (by omega))
      clear hh hok
      generalize L[k].1 = h at *
      generalize L[k].2 = l at *
      have i1 : (0 : Int) ≤ (k : Int) := by omega
      have i2 : (k : Int) < (L.length : Int) := by omega
      generalize sumC ((hds L).take k) = z at *
      go_wp2_with (with_reducible refine wpList_load_run rfl 40 (.tmp 14) rfl HLD.out rfl ?_)
      refine (unhide HCO).mono ?_
      rintro e w' ⟨rfl, hb2⟩
      have HB2 := hide (HB1.out.trans (hb2.mono hsz))
      clear hb2 HCO HLD
      go_wp2
      go_roundw
      case rel => exact ⟨k + 1, by omega, by go_num, by rw [HS.out]; go_num, HB2.out⟩
      case measure => simp [intOf]; omega
    · rw [List.take_of_length_le (by rw [hds_len]; omega)]
      go_wp2
      go_ret
      exact ⟨rfl, HB1.out⟩

set_option maxRecDepth 100000 in
set_option maxHeartbeats 1000000 in
theorem rkeys_any (L : List (Hd × Loc)) (A : Option Addr) (n c B : Nat) (w : World) (hn : n = L.length) (hl : L.length ≤ 1000000) (hB : B ≤ w.heap.size) (hA : Reads w B 17 A n (hrow L)) :
    Calls Try.prog 27 #[.slice A n c] w (StrsNew w (keysOf (hds L))) := by
  subst hn
  have HA := hide hA
  clear hA
  obtain ⟨i0, hi0, hz0, hz1, hz2⟩ := info_parts info_str
  have hkl : (keysOf (hds L)).length = L.length := by simp [keysOf, hds]
  unfold StrsNew
  rw [hkl]
  have HKL := hide hkl
  clear hkl
  go_enter Try.func27, Try.ntmps27
  go_wp2_with fail
  go_loopw [3, 4] (fun v i wr => ∃ k : Nat, k ≤ L.length ∧ i = .int .i64 k ∧ wr.ownsRow w.heap.size 9 1 v k (strs ((keysOf (hds L)).take k)) ∧ Below w.heap.size w wr) (fun _ i _ => L.length - (intOf i).toNat)
  case atStart => exact ⟨0, Nat.zero_le _, rfl, World.ownsRow_nil _ _ _ _, Below.refl _ _⟩
  case round =>
    obtain ⟨k, hk, rfl, hown, hbe⟩ := hrel
    have HO := hide hown
    have HB1 := hide hbe
    have hsz := hbe.size
    clear hown hbe
    by_cases hlt : k < L.length
    · obtain ⟨ad, rfl, hb, hxx⟩ := (unhide HA).2 (by omega)
      clear hxx
      have q0 : wr.cell? (ad.add (k * 17)) = some (.string L[k].1.key) := by
        have := (HB1.out.cell (p := (ad.add (k * 17)).add 0) (by rw [block_of_add, block_of_add]; omega)).trans (row_cells HA.out k hlt rfl 0 _ rfl)
        rwa [Addr.add_zero'] at this
      have HT : Hid (strs ((keysOf (hds L)).take (k + 1)) = strs ((keysOf (hds L)).take k) ++ [.string L[k].1.key]) := by
        have hkl2 : k < (keysOf (hds L)).length := by rw [HKL.out]; exact hlt
        show strs _ = _
        rw [List.take_succ_eq_append_getElem hkl2]
        simp [strs, keysOf, hds]
      generalize L[k].1.key = key at *
      have i1 : (0 : Int) ≤ (k : Int) := by omega
      have i2 : (k : Int) < (L.length : Int) := by omega
      have HO2 : Hid ((wr.alloc (.cells #[.string key] 9)).ownsRow w.heap.size 9 1 u3 k (strs ((keysOf (hds L)).take k))) := own_keep HO.out ((Below.refl _ _).alloc (Nat.le_refl _) _)
      have HR2 : Hid (Reads (wr.alloc (.cells #[.string key] 9)) (wr.heap.size + 1) 1 (some ⟨wr.heap.size, 0, none⟩) 1 [.string key]) := ⟨rfl, fun _ => ⟨_, rfl, by simp, fun j u hu => by
        rw [add_flat, cell_new, ← hu]
        simp⟩⟩
      go_wp2_with (at_builtin; refine wpList_append_any _ rfl (.tmp 11) (.tmp 17) _ rfl w.heap.size 9 i0 _ 1 16 Try.underlying28 hi0 hz0 hz1 hz2 rfl (by omega) u3 k (strs ((keysOf (hds L)).take k)) rfl HO2.out (wr.heap.size + 1) (some ⟨wr.heap.size, 0, none⟩) 1 1 [.string key] rfl HR2.out (by simp [Value.oneCell']) (by simp only [maxLen]; omega) (by omega) (by simp; omega) ?_; intro v1 w1 hown1 hg1 hat1)
      have HO1 : Hid (w1.ownsRow w.heap.size 9 1 v1 (k + 1) (strs ((keysOf (hds L)).take (k + 1)))) := by rw [HT.out]; exact hown1
      have HB3 : Hid (Below w.heap.size w w1) := (HB1.out.alloc (by omega) _).grown hg1 (by simp; omega) (fun q hq => (HO2.out.lt q hq).1)
      clear hown1 hg1 hat1
      go_roundw
      case rel => exact ⟨k + 1, by omega, by go_num, HO1.out, HB3.out⟩
      case measure => simp [intOf]; omega
    · obtain rfl : k = L.length := by omega
      have HO2 : Hid (wr.ownsRow w.heap.size 9 1 u3 (keysOf (hds L)).length (strs (keysOf (hds L)))) := by
        have := HO.out
        rw [List.take_of_length_le (by rw [HKL.out]; omega), ← HKL.out] at this
        exact this
      obtain ⟨A', c', rfl, hr⟩ := own_strs HO2.out
      rw [HKL.out] at hr
      have HR := hide hr
      clear hr
      go_wp2
      go_ret
      exact ⟨A', c', by rw [HKL.out]; rfl, HR.out, HB1.out⟩
end Go.Proofs.Ytjijdpdbkpknpaa
