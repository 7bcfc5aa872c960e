/-
  The walks of page.Unpack and icehouseref14.Unpack. Conditions: the slice reads as a list of bytes; for page.Unpack the table half reads as the text lays it.
-/
import Derived.Test.YtenhjnicadjbaaaDoorUnpack
import Derived.Deep.Onto
namespace Go.Proofs.YtenhjnicadjbaaaDoor
open Go Go.RowKit

theorem i64_or256 {x y : Nat} (hx : x < 256) (hy : y < 256) : bits .or .i64 ((x : Int) * 256) (y : Int) = ((256 * x + y : Nat) : Int) := by
  rw [show (x : Int) * 256 = ((256 * x : Nat) : Int) by omega]
  show IntKind.i64.wrap ((BitVec.ofInt 64 ((256 * x : Nat) : Int) ||| BitVec.ofInt 64 (y : Int)).toNat : Int) = _
  have h8 := Nat.two_pow_add_eq_or_of_lt (i := 8) (b := y) (by omega) x
  rw [BitVec.toNat_or, ofInt_u64 _ (by omega), ofInt_u64 y (by omega), show 256 * x = 2 ^ 8 * x by omega, ← h8]
  exact wrap_small _ (by omega) (by omega)
theorem add_zero_addr (a : Addr) : a.add 0 = a := by unfold Addr.add; simp

set_option maxRecDepth 100000 in
set_option maxHeartbeats 1000000 in
theorem unpack_own (l : List UInt8) (A : Option Addr) (n c : Nat) (w : World) (hn : n = l.length) (hl : l.length ≤ 1099511627776) (hc : l.length ≤ c) (hA : BytesAt w w.heap.size A l) (hh : HalfAt w) :
    Calls Tryd.prog 28 #[.slice A n c] w (UnpackOwn l w) := by
  subst hn
  by_cases h4 : l.length < 4
  · have HP := hide (isPage_len (b := l) (by omega))
    go_enter Tryd.func28, Tryd.ntmps28
    go_wp2_with fail
    refine (open_short A l.length c w h4).mono ?_
    rintro e w1 ⟨rfl, hbe⟩
    go_wp2
    refine bodyPost_ret (results_tmp3 rfl _ _ _) rfl ?_
    exact ⟨none, 0, 0, 0, 33, rfl, hbe, .inr ⟨HP.out, rfl, rfl, rfl, rfl, rfl⟩⟩
  · obtain ⟨k, hk⟩ : ∃ k, l.length = k + 4 := ⟨l.length - 4, by omega⟩
    have HK := hide hk
    have HO := hide (open_long l A l.length c k w (by omega) hk hl hc hA hh)
    have HNP : Hid (framed l = false → isPage l = false) := fun h => isPage_framed h
    have HNL : Hid (l.length ≠ 512 → isPage l = false) := fun h => isPage_len h
    have HPI : Hid (framed l = true → l.length = 512 → bodyN l ≤ 505 → 1 ≤ bodyK l → isPage l = !((l.take 508).drop (3 + bodyN l)).any (· != 0)) := fun a b c d => isPage_iff a b c d
    have HP0 : Hid (¬ (bodyN l ≤ 505 ∧ 1 ≤ bodyK l) → isPage l = false) := fun h => by
      show isPage l = false
      unfold isPage
      by_cases h1 : bodyN l ≤ 505
      · rw [decide_eq_false (fun h2 : 1 ≤ bodyK l => h ⟨h1, h2⟩)]
        simp
      · rw [decide_eq_false h1]
        simp
    unfold UnpackOwn
    generalize hip : isPage l = ip at *
    clear hip
    rw [hk] at hl hc HO h4 ⊢
    cases hfr : framed l with
    | false =>
      have HF := hide (HNP.out hfr)
      clear hA hh hk HPI HP0 HNL hl
      go_enter Tryd.func28, Tryd.ntmps28
      go_wp2_with fail
      refine (unhide HO).mono ?_
      rintro e w1 hop
      obtain ⟨rfl, hbe⟩ := hop.2 hfr
      clear hop HO
      go_wp2
      refine bodyPost_ret (results_tmp3 rfl _ _ _) rfl ?_
      exact ⟨none, 0, 0, 0, 33, rfl, hbe, .inr ⟨HF.out, rfl, rfl, rfl, rfl, rfl⟩⟩
    | true =>
      by_cases h512 : k = 508
      · subst h512
        have HPI2 := hide (fun h1 h2 => HPI.out hfr hk h1 h2)
        have g0 : l[0]? = some (l.getD 0 0) := by rw [List.getD_eq_getElem?_getD, List.getElem?_eq_getElem (by omega)]; rfl
        have g1 : l[1]? = some (l.getD 1 0) := by rw [List.getD_eq_getElem?_getD, List.getElem?_eq_getElem (by omega)]; rfl
        have g2 : l[2]? = some (l.getD 2 0) := by rw [List.getD_eq_getElem?_getD, List.getElem?_eq_getElem (by omega)]; rfl
        have HLN : Hid (bodyN l = 256 * (l.getD 1 0).toNat + (l.getD 2 0).toNat) := rfl
        have HLK : Hid (bodyK l = (l.getD 0 0).toNat) := rfl
        have HLT := hide (show (l.take 508).length = 508 by rw [List.length_take]; omega)
        have b0 : (l.getD 0 0).toNat < 256 := (l.getD 0 0).toNat_lt
        have b1 : (l.getD 1 0).toNat < 256 := (l.getD 1 0).toNat_lt
        have b2 : (l.getD 2 0).toNat < 256 := (l.getD 2 0).toNat_lt
        have HG0 := hide (show (byts (l.take 508))[0]? = some (.int .u8 ((l.getD 0 0).toNat : Int)) by rw [byts, List.getElem?_map, List.getElem?_take_of_lt (by omega), g0]; rfl)
        have HG1 := hide (show (byts (l.take 508))[1]? = some (.int .u8 ((l.getD 1 0).toNat : Int)) by rw [byts, List.getElem?_map, List.getElem?_take_of_lt (by omega), g1]; rfl)
        have HG2 := hide (show (byts (l.take 508))[2]? = some (.int .u8 ((l.getD 2 0).toNat : Int)) by rw [byts, List.getElem?_map, List.getElem?_take_of_lt (by omega), g2]; rfl)
        clear g0 g1 g2 hA hh HPI HNP HNL h4 hl
        generalize (l.getD 0 0).toNat = x0 at *
        generalize (l.getD 1 0).toNat = x1 at *
        generalize (l.getD 2 0).toNat = x2 at *
        simp only [Nat.reduceAdd] at HO hc ⊢
        go_enter Tryd.func28, Tryd.ntmps28
        go_wp2_with fail
        refine (unhide HO).mono ?_
        rintro e w1 hop
        obtain ⟨v8, rfl, hown8, hbe8⟩ := hop.1 hfr
        rw [HLT.out] at hown8
        obtain ⟨A8, c8, rfl, hc8, hb8⟩ : ∃ A8 c8, v8 = .slice A8 508 c8 ∧ 508 ≤ c8 ∧ BytesAt w1 w1.heap.size A8 (l.take 508) := by
          have := own_slice (l := l.take 508) (by rw [HLT.out]; exact hown8)
          rw [HLT.out] at this
          exact this
        obtain ⟨ad, rfl, had, hcell⟩ := hb8.2 (by rw [HLT.out]; omega)
        have r0 := hcell 0 _ HG0.out
        have r1 : w1.cell? ⟨ad.block, ad.off + 1, none⟩ = _ := hcell 1 _ HG1.out
        have r2 : w1.cell? ⟨ad.block, ad.off + 2, none⟩ = _ := hcell 2 _ HG2.out
        rw [add_zero_addr] at r0
        have HB8 := hide hb8
        have HE8 := hide hbe8
        clear hop HO hown8 hcell hb8 hbe8 hfr hk
        have i0 : (x0 : Int) < 256 := by omega
        have i1 : (x1 : Int) < 256 := by omega
        have i2 : (x2 : Int) < 256 := by omega
        have wr0 : IntKind.i64.wrap (x0 : Int) = x0 := wrap_small _ (by omega) (by omega)
        have wr1 : IntKind.i64.wrap (x1 : Int) = x1 := wrap_small _ (by omega) (by omega)
        have wr2 : IntKind.i64.wrap (x2 : Int) = x2 := wrap_small _ (by omega) (by omega)
        have hor := i64_or256 b1 b2
        obtain ⟨N, hN⟩ : ∃ N, 256 * x1 + x2 = N := ⟨_, rfl⟩
        rw [hN] at HLN hor
        rw [HLN.out, HLK.out] at HPI2
        rw [HLN.out, HLK.out] at HP0
        have hNlt : N < 65536 := by omega
        have HBL : Hid (((l.take 508).drop 3).take N = ((l.take 508).drop 3).take (bodyN l)) := by show _ = _; rw [HLN.out]
        by_cases hx0 : x0 = 0
        · have t1 : ((x0 : Int) == 0) = true := by rw [hx0]; rfl
          have HF := hide (HP0.out (by omega))
          go_wp2_with fail
          go_quiet (fail)
          go_wp2
          refine bodyPost_ret (results_tmp3 rfl _ _ _) rfl ?_
          exact ⟨none, 0, 0, 0, 33, rfl, below_drewN HE8.out _, .inr ⟨HF.out, rfl, rfl, rfl, rfl, rfl⟩⟩
        · have t1 : ((x0 : Int) == 0) = false := by rw [beq_eq_false_iff_ne]; omega
          by_cases hN5 : N ≤ 505
          · have t2 : decide ((505 : Int) < (N : Int)) = false := decide_eq_false (by omega)
            have HPP := hide (HPI2.out hN5 (by omega))
            have e3 : ((3 + N : Nat) : Int) = 3 + (N : Int) := by omega
            have s1 : ∀ W, (Instr.slice 23 (.slice (some ad) 508 c8) (some (.int .i64 (3 + (N : Int)))) none none).run Tryd.prog W = .ok (.slice (if c8 = 3 + N then some ad else (some ad).map (·.add (3 + N))) (508 - (3 + N)) (c8 - (3 + N))) W := fun W => by
              have := cut_back8 (some ad) 508 c8 (3 + N) (by omega) W
              rw [e3] at this
              exact this
            have s2 : ∀ W, (Instr.slice 23 (.slice (some ad) 508 c8) (some (.int .i64 3)) (some (.int .i64 (3 + (N : Int)))) none).run Tryd.prog W = .ok (.slice (some (ad.add 3)) N (c8 - 3)) W := fun W => by
              have := cut_mid8 (some ad) 508 c8 3 (3 + N) (by omega) (by omega) W
              rw [e3, if_neg (by omega), show 3 + N - 3 = N by omega] at this
              exact this
            have HCO := hide (fun W (hW : Below w1.heap.size w1 W) => contains_any ((l.take 508).drop (3 + N)) (if c8 = 3 + N then some ad else (some ad).map (·.add (3 + N))) (508 - (3 + N)) (c8 - (3 + N)) W.heap.size W (by rw [List.length_drop, HLT.out]) (by rw [List.length_drop, HLT.out]; omega) ((BytesAt.cut HB8.out (by rw [HLT.out]; omega) (by rw [HLT.out]; exact hc8)).lift hW hW.size))
            have hlb : (bodyL l).length = N := by unfold bodyL; rw [HLN.out, List.length_take, List.length_drop, HK.out]; omega
            have HLB := hide hlb
            have HCL := hide (fun W (hW : Below w1.heap.size w1 W) => clone_some (bodyL l) (ad.add 3) N (c8 - 3) w1.heap.size W hlb.symm (by omega) hW.size (by
              have := BytesAt.mid HB8.out (i := 3) (j := 3 + N) (c := c8) (by omega) (by rw [HLT.out]; omega) (by rw [HLT.out]; exact hc8)
              rw [if_neg (by omega), show 3 + N - 3 = N by omega] at this
              have e : ((l.take 508).drop 3).take N = bodyL l := by
                unfold bodyL
                rw [HLN.out, List.drop_take, List.take_take]
                congr 1
                omega
              rw [e] at this
              exact this.lift hW (Nat.le_refl _)))
            clear hN hN5 HP0 HPI2 e3 hlb HBL
            generalize (List.drop (3 + N) (List.take 508 l)).any (· != 0) = an at *
            generalize (if c8 = 3 + N then some ad else (some ad).map (·.add (3 + N))) = A9 at *
            cases an with
            | true =>
              go_wp2_with fail
              go_quiet (fail)
              go_wp2_with fail
              refine (unhide HCO _ (below_drewN (Below.refl _ _) nq)).mono ?_
              rintro e w' ⟨rfl, rfl⟩
              go_wp2
              refine bodyPost_ret (results_tmp3 rfl _ _ _) rfl ?_
              exact ⟨none, 0, 0, 0, 33, rfl, below_drewN HE8.out _, .inr ⟨HPP.out, rfl, rfl, rfl, rfl, rfl⟩⟩
            | false =>
              go_wp2_with fail
              go_quiet (fail)
              go_wp2_with fail
              refine (unhide HCO _ (below_drewN (Below.refl _ _) nq)).mono ?_
              rintro e w' ⟨rfl, rfl⟩
              go_wp2_with fail
              refine (unhide HCL _ (below_drewN (Below.refl _ _) nq)).mono ?_
              rintro e w9 ⟨v9, rfl, hown9, hbe9⟩
              obtain ⟨A9', c9, rfl, hc9, hb9⟩ := own_slice hown9
              have HB9 := hide hb9
              have HO9 := hide (hown9.mono (Nat.zero_le _))
              have HE9 := hide (HE8.out.trans ((below_drewN (Below.refl _ _) nq).trans (show Below w1.heap.size _ _ from hbe9) |>.mono HE8.out.size))
              clear hown9 hbe9 hb9
              go_wp2
              refine bodyPost_ret (results_tmp3 rfl _ _ _) rfl ?_
              exact ⟨A9', _, c9, _, 0, rfl, HE9.out, .inl ⟨HPP.out, by rw [HLK.out], rfl, rfl, hc9, HB9.out, HO9.out⟩⟩
          · have t2 : decide ((505 : Int) < (N : Int)) = true := decide_eq_true (by omega)
            have HF := hide (HP0.out (by omega))
            go_wp2_with fail
            go_quiet (fail)
            go_wp2
            refine bodyPost_ret (results_tmp3 rfl _ _ _) rfl ?_
            exact ⟨none, 0, 0, 0, 33, rfl, below_drewN HE8.out _, .inr ⟨HF.out, rfl, rfl, rfl, rfl, rfl⟩⟩
      · have HF := hide (HNL.out (by omega))
        have hne : (((k : Int) + 4) != 512) = true := by rw [bne_iff_ne]; omega
        clear hA hh hk HPI HP0 HNL hl
        go_enter Tryd.func28, Tryd.ntmps28
        go_wp2_with fail
        refine (unhide HO).mono ?_
        rintro e w1 hop
        obtain ⟨v, rfl, hown, hbe⟩ := hop.1 hfr
        clear hop HO hown
        go_wp2
        refine bodyPost_ret (results_tmp3 rfl _ _ _) rfl ?_
        exact ⟨none, 0, 0, 0, 33, rfl, hbe, .inr ⟨HF.out, rfl, rfl, rfl, rfl, rfl⟩⟩
theorem unpack_any (l : List UInt8) (A : Option Addr) (n c : Nat) (w : World) (hn : n = l.length) (hl : l.length ≤ 1099511627776) (hc : l.length ≤ c) (hA : BytesAt w w.heap.size A l) (hh : HalfAt w) :
    Calls Tryd.prog 28 #[.slice A n c] w (UnpackPost l w) :=
  (unpack_own l A n c w hn hl hc hA hh).mono fun _ _ ⟨A, n, c, kk, code, e, hb, h⟩ => ⟨A, n, c, kk, code, e, hb, h.imp (fun h => ⟨h.1, h.2.1, h.2.2.1, h.2.2.2.1, h.2.2.2.2.1, h.2.2.2.2.2.1⟩) id⟩
end Go.Proofs.YtenhjnicadjbaaaDoor
