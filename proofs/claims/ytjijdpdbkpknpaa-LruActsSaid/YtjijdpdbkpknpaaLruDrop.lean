/-
  The walk of lru's Drop. Conditions: the cache lies as its state says, the keys read as a list.
-/
import Derived.Test.YtjijdpdbkpknpaaLruGet
namespace Go.Proofs.Ytjijdpdbkpknpaa
open Go Go.RowKit

def one (b : Bool) : Nat := if b then 1 else 0
def dropS : CS → List ByteArray → CS × Nat
  | S, [] => (S, 0)
  | S, k :: r => ((dropS { S with trial := del k S.trial, rest := del k S.rest } r).1, one (has k S.trial) + one (has k S.rest) + (dropS { S with trial := del k S.trial, rest := del k S.rest } r).2)
def DropRel (W : World) (M C : Nat → Prop) (g qs : Nat) (S : CS) (k : ByteArray) (j : Nat) (w : World) : Prop :=
  (∃ vt vr Xt Xr, CacheIn w M C g (putK S k j) vt vr Xt Xr) ∧ Blk w qs 92 #[.pointer (some ⟨g, 2, none⟩), .pointer (some ⟨g, 4, none⟩)] ∧ Fr M W w
theorem DropRel.lift {W w w' : World} {M C : Nat → Prop} {g qs j : Nat} {S : CS} {k : ByteArray} (H : DropRel W M C g qs S k j w) (hb : Below w.heap.size w w') : DropRel W M C g qs S k j w' := by
  obtain ⟨⟨vt, vr, Xt, Xr, h1⟩, h3, h5⟩ := H
  exact ⟨⟨vt, vr, Xt, Xr, h1.lift hb⟩, h3.below hb h3.lt, h5.trans (Fr.of_below hb M) (fun _ _ e => e)⟩
theorem DropRel.grow {W w w' : World} {M C : Nat → Prop} {g qs j j' : Nat} {S : CS} {k : ByteArray} (H : DropRel W M C g qs S k j w) (hM : ∀ q, M q → q < W.heap.size) (hs : W.heap.size ≤ qs) (hf : Fr M w w') (hc : ∃ vt vr Xt Xr, CacheIn w' M C g (putK S k j') vt vr Xt Xr) : DropRel W M C g qs S k j' w' := by
  obtain ⟨_, h3, h5⟩ := H
  exact ⟨hc, hf.blk h3 (fun e => by have := hM _ e; omega), h5.trans hf (fun _ _ e => e)⟩
def cntK (S : CS) (k : ByteArray) : Nat → Nat
  | 0 => 0
  | 1 => one (has k S.trial)
  | _ => one (has k S.trial) + one (has k S.rest)
/-- what the loop over keys keeps -/
def KeysRel (W : World) (M C : Nat → Prop) (g : Nat) (S : CS) (ks : List ByteArray) (j : Nat) (n : Nat) (w : World) : Prop :=
  ∃ S1 vt vr Xt Xr, CacheIn w M C g S1 vt vr Xt Xr ∧ Fr M W w ∧ n ≤ 2 * j ∧ (dropS S ks).1 = (dropS S1 (ks.drop j)).1 ∧ (dropS S ks).2 = n + (dropS S1 (ks.drop j)).2
def DropPost (W : World) (M : Nat → Prop) (g : Nat) (S : CS) (ks : List ByteArray) (e : Ending) (W' : World) : Prop := e = .returned (.int .i64 ((dropS S ks).2 : Nat)) ∧ CacheTo W M g (dropS S ks).1 W'

set_option maxRecDepth 100000 in
set_option maxHeartbeats 2000000 in
theorem drop_any {W : World} {M : Nat → Prop} {g : Nat} {S : CS} (ks : List ByteArray) (A : Option Addr) (n c : Nat) (D : Nat → Prop) (HC : CacheAt W M g S) (hn : n = ks.length) (hl : ks.length ≤ 100000) (hk : ReadsD W D 1 A n (strs ks)) (hD : ∀ q, D q → ¬ M q) :
    Calls Try.prog 17 #[.pointer (some ⟨g, 0, none⟩), .slice A n c] W (DropPost W M g S ks) := by
  subst hn
  obtain ⟨C, vt, vr, Xt, Xr, H⟩ := HC
  have HLOW := hide H.low
  have HKS := hide hk
  have HD := hide hD
  have HR0 : Hid (KeysRel W M C g S ks 0 0 W) := ⟨S, vt, vr, Xt, Xr, H, Fr.refl _ _, by omega, rfl, by simp⟩
  clear H hk hD
  go_enter Try.func17, Try.ntmps17
  go_wp2_with fail
  go_loopw [5, 13] (fun m i wr => ∃ j n : Nat, j ≤ ks.length ∧ i = .int .i64 j ∧ m = .int .i64 n ∧ KeysRel W M C g S ks j n wr) (fun _ i _ => ks.length - (intOf i).toNat)
  case atStart => exact ⟨0, 0, by omega, rfl, rfl, HR0.out⟩
  case round =>
    clear HR0
    obtain ⟨j, n, hj, rfl, rfl, hrel⟩ := hrel
    obtain ⟨S1, vt1, vr1, Xt1, Xr1, hin, hfr, hn2, hd1, hd2⟩ := hrel
    have HIN := hide hin
    have HFR := hide hfr
    have HD1 := hide hd1
    have HD2 := hide hd2
    have hsz := hfr.size
    by_cases hlt : j < ks.length
    · obtain ⟨ad, rfl, hb, hcell⟩ := (unhide HKS).2 (by omega)
      have b0 : wr.cell? (ad.add j) = some (.string ks[j]) := by
        have hr := (unhide HKS).fr hfr HD.out
        obtain ⟨ad', e, _, hc⟩ := hr.2 (by omega)
        cases e
        exact hc j _ (by simp [strs, hlt])
      have HDJ : Hid (ks.drop j = ks[j] :: ks.drop (j + 1)) := List.drop_eq_getElem_cons hlt
      have i1 : (0 : Int) ≤ (j : Int) := by omega
      have i2 : (j : Int) < (ks.length : Int) := by omega
      have HSG := hide (segs_any wr g)
      clear hin hfr hd1 hd2 hcell
      generalize ks[j] = k at *
      go_wp2_with fail
      refine (unhide HSG).mono ?_
      rintro e W2 ⟨qs, rfl, hqs, hsb, hb2⟩
      have HDR : Hid (DropRel W M C g qs S1 k 0 W2) := ⟨⟨vt1, vr1, Xt1, Xr1, HIN.out.lift hb2⟩, hsb, HFR.out.trans (Fr.of_below hb2 M) (fun _ _ e => e)⟩
      have hqs2 : W.heap.size ≤ qs := by omega
      clear hsb hb2 HSG b0 hb HIN HFR
      go_wp2_with fail
      go_loopw [5, 20] (fun m i ws => ∃ k' : Nat, k' ≤ 2 ∧ i = .int .i64 k' ∧ m = .int .i64 ((n + cntK S1 k k' : Nat) : Int) ∧ DropRel W M C g qs S1 k k' ws) (fun _ i _ => 2 - (intOf i).toNat)
      case atStart => exact ⟨0, by omega, rfl, rfl, HDR.out⟩
      case round =>
        clear HDR
        obtain ⟨k', hk', rfl, rfl, hdr⟩ := hrel
        have HDR := hide hdr
        obtain ⟨⟨vt2, vr2, Xt2, Xr2, hc⟩, hsg, _⟩ := hdr
        have s0 : wr.cell? ⟨qs, 0, none⟩ = some (.pointer (some ⟨g, 2, none⟩)) := hsg.cell 0
        have s1 : wr.cell? ⟨qs, 1, none⟩ = some (.pointer (some ⟨g, 4, none⟩)) := hsg.cell 1
        have HC := hide hc
        clear hc hsg
        match k', hk' with
        | 0, _ =>
          have HFI := hide (find_trial HC.out k)
          have hlen := HC.out.len.1
          change Hid (CacheIn wr M C g S1 vt2 vr2 Xt2 Xr2) at HC
          change Xt2.length = S1.trial.length at hlen
          change Hid (Calls _ _ _ _ fun e w' => e = .returned (.int .i64 (idxI k S1.trial)) ∧ Below wr.heap.size wr w') at HFI
          cases hhas : has k S1.trial with
          | true =>
            rw [idx_yes hhas] at HFI
            have hlt2 : atK k S1.trial < Xt2.length := by have := of_decide_eq_true hhas; omega
            obtain ⟨hp, lp, HPL⟩ : ∃ hp lp, Hid (∀ X, Below wr.heap.size wr X → Calls Try.prog 40 #[.pointer (some ⟨g, 2, none⟩), .int .i64 ((atK k S1.trial : Nat) : Int)] X (Pull2 X M C g S1 vr2 Xt2 Xr2 (atK k S1.trial) hp lp)) := ⟨_, _, fun X hX => pull_trial (HC.out.lift hX) _ hlt2⟩
            have HDE : Hid (putK S1 k 1 = { S1 with trial := S1.trial.eraseIdx (atK k S1.trial) }) := rfl
            have HCT : Hid (n + cntK S1 k 1 = n + 1) := by
              show n + one (has k S1.trial) = n + 1
              rw [hhas]
              rfl
            clear hhas hlt2 hlen
            generalize hat : atK k S1.trial = a at *
            have HAT := hide hat
            clear hat
            rw [show n + cntK S1 k 0 = n from rfl]
            go_wp2_with fail
            refine (unhide HFI).mono ?_
            rintro e w1 ⟨rfl, hb1⟩
            have HBX := hide hb1
            clear hb1 HFI
            go_wp2_with fail
            refine (HPL.out w1 HBX.out).mono ?_
            rintro e w2 ⟨rfl, ⟨vt3, hc2⟩, hf2, -⟩
            have HP1 : Hid (DropRel W M C g qs S1 k 1 w2) := (HDR.out.lift HBX.out).grow HLOW.out hqs2 hf2 ⟨vt3, _, _, _, by rw [HDE.out]; exact hc2⟩
            clear hc2 hf2 HPL
            go_wp2
            go_roundw
            case rel => exact ⟨1, by omega, rfl, by rw [HCT.out]; go_num, HP1.out⟩
            case measure => simp [intOf]
          | false =>
            rw [idx_no hhas] at HFI
            have HCT : Hid (n + cntK S1 k 1 = n) := by
              show n + one (has k S1.trial) = n
              rw [hhas]
              rfl
            have HP0 : Hid (∀ x, DropRel W M C g qs S1 k 0 x → DropRel W M C g qs S1 k 1 x) := fun x hx => by
              have e : putK S1 k 1 = S1 := by show ({ S1 with trial := del k S1.trial } : CS) = S1; rw [del_no hhas]
              unfold DropRel at hx ⊢
              rw [e]
              exact hx
            clear hhas hlen
            rw [show n + cntK S1 k 0 = n from rfl]
            go_wp2_with fail
            refine (unhide HFI).mono ?_
            rintro e w1 ⟨rfl, hb1⟩
            have HP1 : Hid (DropRel W M C g qs S1 k 1 w1) := HP0.out w1 (HDR.out.lift hb1)
            clear hb1 HFI HP0
            go_wp2
            go_roundw
            case rel => exact ⟨1, by omega, rfl, by rw [HCT.out], HP1.out⟩
            case measure => simp [intOf]
        | 1, _ =>
          have hn1 : n + cntK S1 k 1 ≤ 2 * j + 1 := by
            show n + one (has k S1.trial) ≤ _
            have h1 : ∀ b, one b ≤ 1 := by decide
            have := h1 (has k S1.trial)
            omega
          obtain ⟨n1, hn1e⟩ : ∃ n1, n + cntK S1 k 1 = n1 := ⟨_, rfl⟩
          have HN1 : Hid (n + (one (has k S1.trial)) = n1) := hn1e
          rw [hn1e] at hn1 ⊢
          clear hn1e
          have HFI := hide (find_rest HC.out k)
          have hlen := HC.out.len.2
          change Hid (CacheIn wr M C g { S1 with trial := del k S1.trial } vt2 vr2 Xt2 Xr2) at HC
          change Xr2.length = S1.rest.length at hlen
          change Hid (Calls _ _ _ _ fun e w' => e = .returned (.int .i64 (idxI k S1.rest)) ∧ Below wr.heap.size wr w') at HFI
          cases hhas : has k S1.rest with
          | true =>
            rw [idx_yes hhas] at HFI
            have hlt2 : atK k S1.rest < Xr2.length := by have := of_decide_eq_true hhas; omega
            obtain ⟨hp, lp, HPL⟩ : ∃ hp lp, Hid (∀ X, Below wr.heap.size wr X → Calls Try.prog 40 #[.pointer (some ⟨g, 4, none⟩), .int .i64 ((atK k S1.rest : Nat) : Int)] X (Pull4 X M C g { S1 with trial := del k S1.trial } vt2 Xt2 Xr2 (atK k S1.rest) hp lp)) := ⟨_, _, fun X hX => pull_rest (HC.out.lift hX) _ hlt2⟩
            have HDE : Hid (putK S1 k 2 = { S1 with trial := del k S1.trial, rest := S1.rest.eraseIdx (atK k S1.rest) }) := rfl
            have HCT : Hid (n + cntK S1 k 2 = n1 + 1) := by
              show n + (one (has k S1.trial) + one (has k S1.rest)) = n1 + 1
              rw [← HN1.out, hhas]
              rfl
            clear hhas hlt2 hlen
            generalize hat : atK k S1.rest = a at *
            have HAT := hide hat
            clear hat
            go_wp2_with fail
            refine (unhide HFI).mono ?_
            rintro e w1 ⟨rfl, hb1⟩
            have HBX := hide hb1
            clear hb1 HFI
            go_wp2_with fail
            refine (HPL.out w1 HBX.out).mono ?_
            rintro e w2 ⟨rfl, ⟨vt3, hc2⟩, hf2, -⟩
            have HP1 : Hid (DropRel W M C g qs S1 k 2 w2) := (HDR.out.lift HBX.out).grow HLOW.out hqs2 hf2 ⟨_, vt3, _, _, by rw [HDE.out]; exact hc2⟩
            clear hc2 hf2 HPL
            go_wp2
            go_roundw
            case rel => exact ⟨2, by omega, rfl, by rw [HCT.out]; go_num, HP1.out⟩
            case measure => simp [intOf]
          | false =>
            rw [idx_no hhas] at HFI
            have HCT : Hid (n + cntK S1 k 2 = n1) := by
              show n + (one (has k S1.trial) + one (has k S1.rest)) = n1
              rw [← HN1.out, hhas]
              rfl
            have HP0 : Hid (∀ x, DropRel W M C g qs S1 k 1 x → DropRel W M C g qs S1 k 2 x) := fun x hx => by
              have e : putK S1 k 2 = putK S1 k 1 := by show ({ S1 with trial := del k S1.trial, rest := del k S1.rest } : CS) = { S1 with trial := del k S1.trial }; rw [del_no hhas]
              unfold DropRel at hx ⊢
              rw [e]
              exact hx
            clear hhas hlen
            go_wp2_with fail
            refine (unhide HFI).mono ?_
            rintro e w1 ⟨rfl, hb1⟩
            have HP1 : Hid (DropRel W M C g qs S1 k 2 w1) := HP0.out w1 (HDR.out.lift hb1)
            clear hb1 HFI HP0
            go_wp2
            go_roundw
            case rel => exact ⟨2, by omega, rfl, by rw [HCT.out], HP1.out⟩
            case measure => simp [intOf]
        | 2, _ =>
          change Hid (CacheIn wr M C g { S1 with trial := del k S1.trial, rest := del k S1.rest } vt2 vr2 Xt2 Xr2) at HC
          have hcn : cntK S1 k 2 ≤ 2 := by
            show one (has k S1.trial) + one (has k S1.rest) ≤ 2
            have h1 : ∀ b, one b ≤ 1 := by decide
            have := h1 (has k S1.trial)
            have := h1 (has k S1.rest)
            omega
          have HKR : Hid (KeysRel W M C g S ks (j + 1) (n + cntK S1 k 2) wr) := by
            refine ⟨_, _, _, _, _, HC.out, HDR.out.2.2, by omega, ?_, ?_⟩
            · rw [HD1.out, HDJ.out]; rfl
            · rw [HD2.out, HDJ.out]
              show n + (one (has k S1.trial) + one (has k S1.rest) + _) = n + (one (has k S1.trial) + one (has k S1.rest)) + _
              omega
          generalize n + cntK S1 k 2 = n2 at *
          go_wp2
          go_roundw
          case rel => exact ⟨j + 1, n2, by omega, by go_num, rfl, HKR.out⟩
          case measure => simp [intOf]; omega
    · obtain rfl : j = ks.length := by omega
      rw [List.drop_length] at hd1 hd2
      have HE1 : Hid ((dropS S ks).1 = S1) := hd1
      have HE2 : Hid ((dropS S ks).2 = n) := hd2
      clear hin hfr hd1 hd2
      go_wp2
      go_ret
      unfold DropPost
      rw [HE1.out, HE2.out]
      exact ⟨rfl, M, ⟨C, vt1, vr1, Xt1, Xr1, HIN.out⟩, fun q hq => .inl hq, HFR.out⟩
end Go.Proofs.Ytjijdpdbkpknpaa
