/-
  The walk of icehouselaw21.LruScans. No condition.
-/
import Derived.Test.YtjijdpdbkpknpaaLruScanL
namespace Go.Proofs.Ytjijdpdbkpknpaa
open Go Go.RowKit

theorem mod_pos (x : Int) (m : Nat) (hm : 0 < m) (hm2 : m ≤ 1000) : ∃ k : Nat, k < m ∧ (wrap64 (x.tmod m + m)).tmod m = (k : Int) := by
  have a := Int.tmod_lt_of_pos x (b := (m : Int)) (by omega)
  have b := Int.lt_tmod_of_pos x (b := (m : Int)) (by omega)
  have e1 : wrap64 (x.tmod m + m) = x.tmod m + m := IntWalk.wrap64_in _ ⟨by omega, by omega⟩
  rw [e1]
  have c := Int.tmod_lt_of_pos (x.tmod m + m) (b := (m : Int)) (by omega)
  have d := Int.tmod_nonneg (m : Int) (a := x.tmod m + m) (by omega)
  exact ⟨((x.tmod m + m).tmod m).toNat, by omega, by omega⟩
/-- a Get or Peek that finds -/
def Found (e : Ending) : Prop := ∃ h l', e = .returned (.tuple #[.agg (hcs h l').toArray, .bool true])
theorem Given.found {W W' : World} {o : Option Hd} {e : Ending} (h : Given W o e W') (hs : o.isSome = true) : Found e := by
  obtain ⟨l', he, _⟩ := h
  exact ⟨_, l', by rw [he, hs]⟩
theorem conv_new (w : World) (l : List UInt8) (C : Array Value) (hC : C = (byts l).toArray) (n c : Nat) (hn : n = l.length) : (convert 27 9 (.slice (some ⟨w.heap.size, 0, none⟩) n c)).run Try.prog (w.alloc (.cells C 5)) = .ok (.string (strOf l)) (w.alloc (.cells C 5)) :=
  conv_str n c hn (BytesAt.new w l C _ _ hC)
theorem CacheOn.size {B : Nat} {W0 W : World} {g : Nat} {S : CS} (H : CacheOn B W0 g S W) : W0.heap.size ≤ W.heap.size := by
  obtain ⟨M, _, _, hb⟩ := H
  exact hb.size
theorem CacheOn.below {B : Nat} {W0 W : World} {g : Nat} {S : CS} (H : CacheOn B W0 g S W) : Below B W0 W := by
  obtain ⟨M, _, _, hb⟩ := H
  exact hb

set_option maxRecDepth 100000 in
set_option maxHeartbeats 2000000 in
theorem lruScans_any (n m : Int) (w : World) : Calls Try.prog 3 #[.int .i64 n, .int .i64 m] w fun e w' => e = .returned (.bool true) ∧ Below w.heap.size w w' := by
  obtain ⟨k, hk6, ek⟩ := mod_pos n 6 (by omega) (by omega)
  obtain ⟨o, ho, eo⟩ := mod_pos m 200 (by omega) (by omega)
  change (wrap64 (n.tmod 6 + 6)).tmod 6 = (k : Int) at ek
  change (wrap64 (m.tmod 200 + 200)).tmod 200 = (o : Int) at eo
  go_enter Try.func3, Try.ntmps3
  go_wp2_with fail
  refine (awake_any w).mono ?_
  rintro e w0 ⟨rfl, hb0⟩
  have HB0 := hide hb0
  have hs0 := hb0.size
  clear hb0
  go_wp2_with fail
  refine (new_on 1000 60 (by omega) (by omega) w0 w0.heap.size (Nat.le_refl _)).mono ?_
  rintro e w1 ⟨rfl, h1, -⟩
  have H1 : Hid (CacheOn w0.heap.size w0 w0.heap.size (scS 0) w1) := h1
  clear h1
  generalize hB : w0.heap.size = B at *
  have HSB : Hid (B ≤ w0.heap.size) := Nat.le_of_eq hB.symm
  clear hB
  go_wp2_with fail
  clear ek
  go_loopw [8] (fun i wr => ∃ j : Nat, j ≤ k + 1 ∧ i = .int .i64 j ∧ CacheOn B w0 B (scS j) wr) (fun i _ => k + 1 - (intOf i).toNat)
  case atStart => exact ⟨0, by omega, rfl, H1.out⟩
  case round =>
    clear H1
    obtain ⟨j, hj, rfl, hc⟩ := hrel
    have HC := hide hc
    clear hc
    by_cases hlt : j < k + 1
    · have hj6 : j < 6 := by omega
      have h97 : (97 + (j : Int)) % 256 = 97 + (j : Int) := by omega
      obtain ⟨g1, g2, g3⟩ := sc_step j hj6
      have hcv : ∀ n c, n = 1 → (convert 27 9 (.slice (some ⟨wr.heap.size, 0, none⟩) n c)).run Try.prog (wr.alloc (.cells #[.int .u8 (97 + (j : Int))] 5)) = .ok (.string (kL j)) (wr.alloc (.cells #[.int .u8 (97 + (j : Int))] 5)) := fun n c hn => conv_new wr [UInt8.ofNat (97 + j)] _ (by simp [byts]; omega) n c hn
      have hcv1 := hcv 1 1 rfl
      clear hcv
      have HW1 : Hid (Below wr.heap.size wr (wr.alloc (.cells #[.int .u8 (97 + (j : Int))] 5))) := (Below.refl _ _).alloc (Nat.le_refl _) _
      obtain ⟨W1, hA1⟩ : ∃ W1, wr.alloc (.cells #[.int .u8 (97 + (j : Int))] 5) = W1 := ⟨_, rfl⟩
      rw [hA1] at hcv1 HW1
      have HC1 := hide (HC.out.lift HW1.out HSB.out)
      have HHE := hide (held_any (kL j) 35 (by omega) W1)
      have HOK := hide (heldHd_ok (kL j) 35 (by rw [kL_size]; omega) (by omega))
      have HLEN : Hid ((scS j).trial.length + (scS j).rest.length < 1000) := by
        show 0 + (restK j).length < 1000
        rw [restK_len]
        omega
      have HG1 := hide g1
      have HG2 := hide g2
      have HG3 := hide g3
      clear g1 g2 g3
      generalize kL j = key at *
      generalize heldHd key 35 = hd at *
      go_wp2_with fail
      refine (unhide HHE).mono ?_
      rintro e W2 ⟨l2, rfl, hh, hb⟩
      have HP := hide (put_on HC1.out HSB.out hb _ l2 hh HOK.out HLEN.out)
      clear hh hb hcv1 hA1 HHE
      go_wp2_with fail
      refine (unhide HP).mono ?_
      rintro e W3 ⟨⟨A3, c3, rfl, -⟩, h3⟩
      have HGT : Hid (Calls Try.prog 12 #[.pointer (some ⟨B, 0, none⟩), .string key] W3 fun e W' => Found e ∧ CacheOn B w0 B (scS (j + 1)) W') := (get_on h3 HSB.out key HG3.out).mono fun e W' ⟨x1, x2⟩ => ⟨x1.found HG2.out, by rw [← HG1.out]; exact x2⟩
      clear h3 HP HG1 HG2 HG3
      go_wp2_with fail
      refine (unhide HGT).mono ?_
      rintro e W4 ⟨⟨h4, l4, rfl⟩, hc4⟩
      have hz := fun W' => zero_held W'
      have hsc := cells_held_new W4 h4 l4
      have HC5 := hide (hc4.lift ((Below.refl _ _).alloc (Nat.le_refl _) (.cells (hcs h4 l4).toArray 40)) HSB.out)
      generalize W4.alloc (.cells (hcs h4 l4).toArray 40) = W5 at *
      clear hc4 HGT
      go_wp2
      go_roundw
      case rel => exact ⟨j + 1, by omega, by go_num, HC5.out⟩
      case measure => simp [intOf]; omega
    · have HOK0 : Hid (ScOk (k + 1) (scS j)) := by
        have e : j = k + 1 := by omega
        rw [e]
        exact ScOk.start (by omega)
      generalize scS j = S0 at *
      go_wp2_with fail
      go_loopw [12] (fun i wr => ∃ j : Nat, j ≤ o ∧ i = .int .i64 j ∧ ∃ S, ScOk (k + 1) S ∧ CacheOn B w0 B S wr) (fun i _ => o - (intOf i).toNat)
      case atStart => exact ⟨0, by omega, rfl, _, HOK0.out, HC.out⟩
      case round =>
        clear HOK0 HC
        obtain ⟨j, hj, rfl, S, hs, hc⟩ := hrel
        have HC := hide hc
        have HS := hide hs
        clear hs hc
        by_cases hlt : j < o
        · have hj6 : j < 200 := by omega
          have h97 : (j : Int) % 256 = (j : Int) := by omega
          have hcv1 : (convert 27 9 (.slice (some ⟨wr.heap.size, 0, none⟩) 2 2)).run Try.prog (wr.alloc (.cells #[.int .u8 120, .int .u8 (j : Int)] 5)) = .ok (.string (kX j)) (wr.alloc (.cells #[.int .u8 120, .int .u8 (j : Int)] 5)) := conv_new wr [120, UInt8.ofNat j] _ (by simp [byts]; omega) 2 2 rfl
          have HW1 : Hid (Below wr.heap.size wr (wr.alloc (.cells #[.int .u8 120, .int .u8 (j : Int)] 5))) := (Below.refl _ _).alloc (Nat.le_refl _) _
          obtain ⟨W1, hA1⟩ : ∃ W1, wr.alloc (.cells #[.int .u8 120, .int .u8 (j : Int)] 5) = W1 := ⟨_, rfl⟩
          rw [hA1] at hcv1 HW1
          have HC1 := hide (HC.out.lift HW1.out HSB.out)
          have HHE := hide (held_any (kX j) 34 (by omega) W1)
          have HOK := hide (heldHd_ok (kX j) 34 (by rw [kX_size]; omega) (by omega))
          have HLEN := hide HS.out.len
          have HST := hide (HS.out.step (by omega) j)
          generalize kX j = key at *
          generalize heldHd key 34 = hd at *
          go_wp2_with fail
          refine (unhide HHE).mono ?_
          rintro e W2 ⟨l2, rfl, hh, hb⟩
          have HP := hide (put_on HC1.out HSB.out hb _ l2 hh HOK.out HLEN.out)
          clear hh hb hcv1 hA1 HHE
          go_wp2_with fail
          refine (unhide HP).mono ?_
          rintro e W3 ⟨⟨A3, c3, rfl, -⟩, h3⟩
          have HC3 := hide h3
          clear h3 HP
          go_wp2
          go_roundw
          case rel => exact ⟨j + 1, by omega, by go_num, _, HST.out, HC3.out⟩
          case measure => simp [intOf]; omega
        · go_wp2_with fail
          clear eo
          go_loopw [13] (fun i wr => ∃ j : Nat, j ≤ k + 1 ∧ i = .int .i64 j ∧ CacheOn B w0 B S wr) (fun i _ => k + 1 - (intOf i).toNat)
          case atStart => exact ⟨0, by omega, rfl, HC.out⟩
          case round =>
            clear HC
            obtain ⟨j, hj, rfl, hc⟩ := hrel
            have HC := hide hc
            clear hc
            by_cases hlt : j < k + 1
            · have hj6 : j < 6 := by omega
              have h97 : (97 + (j : Int)) % 256 = 97 + (j : Int) := by omega
              have hcv1 : (convert 27 9 (.slice (some ⟨wr.heap.size, 0, none⟩) 1 1)).run Try.prog (wr.alloc (.cells #[.int .u8 (97 + (j : Int))] 5)) = .ok (.string (kL j)) (wr.alloc (.cells #[.int .u8 (97 + (j : Int))] 5)) := conv_new wr [UInt8.ofNat (97 + j)] _ (by simp [byts]; omega) 1 1 rfl
              have HW1 : Hid (Below wr.heap.size wr (wr.alloc (.cells #[.int .u8 (97 + (j : Int))] 5))) := (Below.refl _ _).alloc (Nat.le_refl _) _
              obtain ⟨W1, hA1⟩ : ∃ W1, wr.alloc (.cells #[.int .u8 (97 + (j : Int))] 5) = W1 := ⟨_, rfl⟩
              rw [hA1] at hcv1 HW1
              have HGT : Hid (Calls Try.prog 13 #[.pointer (some ⟨B, 0, none⟩), .string (kL j)] W1 fun e W' => Found e ∧ CacheOn B w0 B S W') := (peek_on (HC.out.lift HW1.out HSB.out) HSB.out (kL j)).mono fun e W' ⟨x1, x2, _⟩ => ⟨x1.found (HS.out.peek hlt), x2⟩
              generalize kL j = key at *
              go_wp2_with fail
              clear hcv1 hA1
              refine (unhide HGT).mono ?_
              rintro e W4 ⟨⟨h4, l4, rfl⟩, hc4⟩
              have hz := fun W' => zero_held W'
              have hsc := cells_held_new W4 h4 l4
              have HC5 := hide (hc4.lift ((Below.refl _ _).alloc (Nat.le_refl _) (.cells (hcs h4 l4).toArray 40)) HSB.out)
              generalize W4.alloc (.cells (hcs h4 l4).toArray 40) = W5 at *
              clear hc4 HGT
              go_wp2
              go_roundw
              case rel => exact ⟨j + 1, by omega, by go_num, HC5.out⟩
              case measure => simp [intOf]; omega
            · have hu := HS.out.used
              have HU := hide (used_on HC.out)
              have tu : decide ((sumC S.trial : Int) + (sumC S.rest : Int) ≤ 1000) = true := decide_eq_true (by omega)
              have HEND : Hid (∀ q, Below w.heap.size w (wr.drewN q)) := fun q => (HB0.out.trans (HC.out.below.mono hs0)).trans (below_drewN (Below.refl _ _) q)
              go_wp2_with fail
              refine (unhide HU).mono ?_
              rintro e w9 ⟨rfl, q, rfl⟩
              go_wp2
              go_ret
              exact ⟨rfl, HEND.out q⟩
end Go.Proofs.Ytjijdpdbkpknpaa
