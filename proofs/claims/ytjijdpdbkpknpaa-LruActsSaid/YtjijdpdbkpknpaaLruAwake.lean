/-
  The walk of icehouselaw21.awake: the document's example. No condition.
-/
import Derived.Test.YtjijdpdbkpknpaaLruNew
namespace Go.Proofs.Ytjijdpdbkpknpaa
open Go Go.RowKit

theorem CacheAt.lift {W W' : World} {M : Nat → Prop} {g : Nat} {S : CS} (H : CacheAt W M g S) (hb : Below W.heap.size W W') : CacheAt W' M g S := by
  obtain ⟨C, vt, vr, Xt, Xr, h⟩ := H
  exact ⟨C, vt, vr, Xt, Xr, h.lift hb⟩
theorem CacheAt.low {W : World} {M : Nat → Prop} {g : Nat} {S : CS} (H : CacheAt W M g S) : ∀ q, M q → q < W.heap.size := by
  obtain ⟨C, vt, vr, Xt, Xr, h⟩ := H
  exact h.low
theorem CacheAt.ok {W : World} {M : Nat → Prop} {g : Nat} {S : CS} (H : CacheAt W M g S) : S.ok := by
  obtain ⟨C, vt, vr, Xt, Xr, h⟩ := H
  exact h.ok
/-- a cache that lies above B, all below B as it was -/
def CacheOn (B : Nat) (W0 : World) (g : Nat) (S : CS) (W : World) : Prop := ∃ M, CacheAt W M g S ∧ (∀ q, M q → B ≤ q) ∧ Below B W0 W
theorem CacheOn.lift {B : Nat} {W0 W W' : World} {g : Nat} {S : CS} (H : CacheOn B W0 g S W) (hb : Below W.heap.size W W') (hB : B ≤ W0.heap.size) : CacheOn B W0 g S W' := by
  obtain ⟨M, h, hM, hbe⟩ := H
  exact ⟨M, h.lift hb, hM, hbe.trans (hb.mono (Nat.le_trans hB hbe.size))⟩
theorem CacheOn.to {B : Nat} {W0 W W' : World} {g : Nat} {S' : CS} {M : Nat → Prop} (hM : ∀ q, M q → B ≤ q) (hbe : Below B W0 W) (hB : B ≤ W0.heap.size) (H : CacheTo W M g S' W') : CacheOn B W0 g S' W' := by
  obtain ⟨M', h, hM', hf⟩ := H
  have := hbe.size
  exact ⟨M', h, fun q hq => by
    rcases hM' q hq with e | e
    · exact hM q e
    · omega, hbe.trans (hf.below (by omega) hM)⟩
def StrsBack (W : World) (l : List ByteArray) (e : Ending) (W' : World) : Prop := ∃ A c, e = .returned (.slice A l.length c) ∧ ReadsD W' (fun q => W.heap.size ≤ q ∧ q < W'.heap.size) 1 A l.length (strs l)
section
variable {B : Nat} {W0 W : World} {g : Nat} {S : CS}
/-- a response made since, put -/
theorem put_on (H : CacheOn B W0 g S W) (hB : B ≤ W0.heap.size) {Wh : World} (hb : Below W.heap.size W Wh) (h : Hd) (l : Loc) (hh : HeldD Wh (fun q => W.heap.size ≤ q ∧ q < Wh.heap.size) h l) (hok : h.ok) (hn : S.trial.length + S.rest.length < 1000) :
    Calls Try.prog 10 #[.pointer (some ⟨g, 0, none⟩), .agg (hcs h l).toArray] Wh fun e W' => StrsBack Wh (putS S h).2 e W' ∧ CacheOn B W0 g (putS S h).1 W' := by
  obtain ⟨M, hc, hM, hbe⟩ := H
  refine (put_any h l _ (hc.lift hb) hh (fun q hq => ⟨hq.2, fun e => by have := hc.low q e; omega⟩) hok hn).mono ?_
  rintro e W' ⟨A, c, he, hr, ht⟩
  exact ⟨⟨A, c, he, hr⟩, CacheOn.to hM (hbe.trans (hb.mono (Nat.le_trans hB hbe.size))) hB ht⟩
/-- a response below B, put -/
theorem put_low (H : CacheOn B W0 g S W) (hB : B ≤ W0.heap.size) (h : Hd) (l : Loc) (hh : HeldD W (fun q => q < B) h l) (hok : h.ok) (hn : S.trial.length + S.rest.length < 1000) :
    Calls Try.prog 10 #[.pointer (some ⟨g, 0, none⟩), .agg (hcs h l).toArray] W fun e W' => StrsBack W (putS S h).2 e W' ∧ CacheOn B W0 g (putS S h).1 W' := by
  obtain ⟨M, hc, hM, hbe⟩ := H
  have := hbe.size
  refine (put_any h l _ hc hh (fun q hq => ⟨by omega, fun e => by have := hM q e; omega⟩) hok hn).mono ?_
  rintro e W' ⟨A, c, he, hr, ht⟩
  exact ⟨⟨A, c, he, hr⟩, CacheOn.to hM hbe hB ht⟩
theorem get_on (H : CacheOn B W0 g S W) (hB : B ≤ W0.heap.size) (k : ByteArray) (hn : S.trial.length + S.rest.length < 1000) :
    Calls Try.prog 12 #[.pointer (some ⟨g, 0, none⟩), .string k] W fun e W' => Given W (getS S k).2 e W' ∧ CacheOn B W0 g (getS S k).1 W' := by
  obtain ⟨M, hc, hM, hbe⟩ := H
  refine (get_any k hc hn).mono ?_
  rintro e W' ⟨hg, ht⟩
  exact ⟨hg, CacheOn.to hM hbe hB ht⟩
theorem peek_on (H : CacheOn B W0 g S W) (hB : B ≤ W0.heap.size) (k : ByteArray) :
    Calls Try.prog 13 #[.pointer (some ⟨g, 0, none⟩), .string k] W fun e W' => Given W (peekS S k) e W' ∧ CacheOn B W0 g S W' ∧ Below W.heap.size W W' := by
  obtain ⟨M, hc, hM, hbe⟩ := H
  refine (peek_any k hc).mono ?_
  rintro e W' ⟨hg, hb⟩
  exact ⟨hg, CacheOn.lift ⟨M, hc, hM, hbe⟩ hb hB, hb⟩
theorem used_on (H : CacheOn B W0 g S W) : Calls Try.prog 14 #[.pointer (some ⟨g, 0, none⟩)] W fun e W' => e = .returned (.int .i64 ((sumC S.trial + sumC S.rest : Nat) : Int)) ∧ ∃ n, W' = W.drewN n := by
  obtain ⟨M, ⟨C, vt, vr, Xt, Xr, hc⟩, hM, hbe⟩ := H
  exact used_any W g S.budget S.share _ _ vt vr hc.blk (by have := hc.ok.sums; omega) (by have := hc.ok.sums; omega)
theorem keys_on (H : CacheOn B W0 g S W) : Calls Try.prog 16 #[.pointer (some ⟨g, 0, none⟩)] W (KeysNew W S) := by
  obtain ⟨M, ⟨C, vt, vr, Xt, Xr, hc⟩, hM, hbe⟩ := H
  exact Keys_any hc
theorem drop_on (H : CacheOn B W0 g S W) (hB : B ≤ W0.heap.size) (ks : List ByteArray) (A : Option Addr) (n c : Nat) {D : Nat → Prop} (hn : n = ks.length) (hl : ks.length ≤ 100000) {Wh : World} (hb : Below W.heap.size W Wh) (hk : ReadsD Wh D 1 A n (strs ks)) (hD : ∀ q, D q → q < B ∨ W.heap.size ≤ q) :
    Calls Try.prog 17 #[.pointer (some ⟨g, 0, none⟩), .slice A n c] Wh fun e W' => e = .returned (.int .i64 ((dropS S ks).2 : Nat)) ∧ CacheOn B W0 g (dropS S ks).1 W' := by
  obtain ⟨M, hc, hM, hbe⟩ := H
  have hd := drop_any ks A n c D (hc.lift hb) hn hl hk (fun q hq e => by
    rcases hD q hq with h | h
    · have := hM q e; omega
    · have := hc.low q e; omega)
  refine hd.mono ?_
  rintro e W' ⟨he, ht⟩
  exact ⟨he, CacheOn.to hM (hbe.trans (hb.mono (Nat.le_trans hB hbe.size))) hB ht⟩
end
theorem new_on (b s : Nat) (hb : b ≤ 1099511627776) (hs : s ≤ 100) (w : World) (B : Nat) (hB : B ≤ w.heap.size) :
    Calls Try.prog 9 #[.int .i64 (b : Int), .int .i64 (s : Int)] w fun e w' => e = .returned (.tuple #[.pointer (some ⟨w.heap.size, 0, none⟩), .int .i64 0]) ∧ CacheOn B w w.heap.size ⟨b, b * s / 100, [], []⟩ w' ∧ Below w.heap.size w w' :=
  (new_any b s hb hs w).mono fun _ _ ⟨h1, h2, h3⟩ => ⟨h1, ⟨_, h2, fun q hq => by omega, h3.mono hB⟩, h3⟩

theorem new_str (w : World) (k : ByteArray) : Reads (w.alloc (.cells #[.string k] 9)) (w.heap.size + 1) 1 (some ⟨w.heap.size, 0, none⟩) 1 (strs [k]) := ⟨rfl, fun _ => ⟨_, rfl, by simp, fun j u hu => by
  rw [add_flat, cell_new, ← hu]
  simp [strs]⟩⟩
/-! the example -/
def kA : ByteArray := ⟨#[97]⟩
def kB : ByteArray := ⟨#[98]⟩
def kC : ByteArray := ⟨#[99]⟩
def aw0 : CS := ⟨200, 200 * 50 / 100, [], []⟩
def awA : CS := (putS aw0 (heldHd kA 5)).1
def awB : CS := (putS awA (heldHd kB 5)).1
def awG : CS := (getS awB kA).1
theorem aw_end : putS awG (heldHd kC 5) = (⟨200, 100, [heldHd kC 5], [heldHd kA 5]⟩, [kB]) := by kernel_rfl
theorem aw_lens : awA.trial.length + awA.rest.length = 1 ∧ awB.trial.length + awB.rest.length = 2 ∧ awG.trial.length + awG.rest.length = 2 := by
  refine ⟨by kernel_rfl, by kernel_rfl, by kernel_rfl⟩
theorem heldHd_ok (k : ByteArray) (n : Nat) (hk : k.size ≤ 300) (hn : n ≤ 2000) : (heldHd k n).ok := by
  refine ⟨Nat.zero_le _, Nat.zero_le _, Nat.zero_le _, by show (List.replicate n 0).length ≤ _; rw [List.length_replicate]; omega, ?_⟩
  show 64 + k.size + (List.replicate n 0).length + fcost [] ≤ _
  rw [List.length_replicate]
  simp [fcost]
  omega

set_option maxRecDepth 100000 in
set_option maxHeartbeats 1000000 in
theorem awake_any (w : World) : Calls Try.prog 8 #[] w fun e w' => e = .returned (.bool true) ∧ Below w.heap.size w w' := by
  go_enter Try.func8, Try.ntmps8
  go_wp2_with fail
  refine (new_on 200 50 (by omega) (by omega) w w.heap.size (Nat.le_refl _)).mono ?_
  rintro e w1 ⟨rfl, h1, -⟩
  have H1 : Hid (CacheOn w.heap.size w w.heap.size aw0 w1) := h1
  clear h1
  go_wp2_with fail
  refine (held_any kA 5 (by omega) w1).mono ?_
  rintro e w2 ⟨l2, rfl, hh, hb⟩
  have HP := hide (put_on H1.out (Nat.le_refl _) hb _ l2 hh (heldHd_ok kA 5 (by decide) (by omega)) (by decide))
  clear hh hb H1
  go_wp2_with fail
  refine (unhide HP).mono ?_
  rintro e w3 ⟨⟨A3, c3, rfl, -⟩, h3⟩
  have H3 : Hid (CacheOn w.heap.size w w.heap.size awA w3) := h3
  clear h3 HP
  go_wp2_with fail
  refine (held_any kB 5 (by omega) w3).mono ?_
  rintro e w4 ⟨l4, rfl, hh, hb⟩
  have HP := hide (put_on H3.out (Nat.le_refl _) hb _ l4 hh (heldHd_ok kB 5 (by decide) (by omega)) (by rw [aw_lens.1]; omega))
  clear hh hb H3
  go_wp2_with fail
  refine (unhide HP).mono ?_
  rintro e w5 ⟨⟨A5, c5, rfl, -⟩, h5⟩
  have H5 : Hid (CacheOn w.heap.size w w.heap.size awB w5) := h5
  clear h5 HP
  go_wp2_with fail
  refine (get_on H5.out (Nat.le_refl _) kA (by rw [aw_lens.2.1]; omega)).mono ?_
  rintro e w6 ⟨⟨l6, rfl, -⟩, h6⟩
  have H6 : Hid (CacheOn w.heap.size w w.heap.size awG w6) := h6
  clear h6 H5
  go_wp2_with fail
  refine (held_any kC 5 (by omega) w6).mono ?_
  rintro e w7 ⟨l7, rfl, hh, hb⟩
  have HP := hide (put_on H6.out (Nat.le_refl _) hb _ l7 hh (heldHd_ok kC 5 (by decide) (by omega)) (by rw [aw_lens.2.2]; omega))
  clear hh hb H6
  rw [aw_end] at HP
  change Hid (Calls _ _ _ w7 fun e W' => (∃ A c, e = .returned (.slice A 1 c) ∧ ReadsD W' (fun q => w7.heap.size ≤ q ∧ q < W'.heap.size) 1 A 1 (strs [kB])) ∧ CacheOn w.heap.size w w.heap.size ⟨200, 100, [heldHd kC 5], [heldHd kA 5]⟩ W') at HP
  go_wp2_with fail
  refine (unhide HP).mono ?_
  rintro e w8 ⟨⟨A8, c8, rfl, hr8⟩, h8⟩
  have HR8 := hide hr8
  have H8 := hide h8
  clear h8 hr8 HP
  go_wp2_with fail
  have HK : Hid (Calls Try.prog 16 #[.pointer (some ⟨w.heap.size, 0, none⟩)] w8 fun e W' => ∃ A1 c1 A2 c2, e = .returned (.tuple #[.slice A1 1 c1, .slice A2 1 c2]) ∧ ReadsD W' (fun q => w8.heap.size ≤ q ∧ q < W'.heap.size) 1 A1 1 (strs [kC]) ∧ ReadsD W' (fun q => w8.heap.size ≤ q ∧ q < W'.heap.size) 1 A2 1 (strs [kA]) ∧ Below w8.heap.size w8 W') := keys_on H8.out
  refine (unhide HK).mono ?_
  rintro e w9 ⟨A1, c1, A2, c2, rfl, hr1, hr2, hb9⟩
  have H9 := hide (H8.out.lift hb9 (Nat.le_refl _))
  have HR9 := hide (HR8.out.fr (Fr.of_below hb9 (fun _ => False)) (fun _ _ => id))
  have HR1 := hide hr1
  have HR2 := hide hr2
  have hs89 := hb9.size
  clear hr1 hr2 hb9 HR8 H8
  clear HK
  have hw9 : w.heap.size ≤ w9.heap.size := by obtain ⟨M, _, _, hbe⟩ := H9.out; exact hbe.size
  have HBW : Hid (Below w.heap.size w w9) := by obtain ⟨M, _, _, hbe⟩ := H9.out; exact hbe
  have HRA := hide (HR9.out.reads (B := w9.heap.size) (fun q hq => by omega))
  have HRB := hide (HR1.out.reads (B := w9.heap.size) (fun q hq => by omega))
  have HRC := hide (HR2.out.reads (B := w9.heap.size) (fun q hq => by omega))
  clear HR9 HR1 HR2 H9
  go_wp2_with fail
  refine (same_strs [kB] [kB] A8 (some ⟨w9.heap.size, 0, none⟩) 1 1 c8 1 (w9.heap.size + 1) _ rfl rfl (by simp) (by simp) ((Reads.alloc HRA.out (Nat.le_refl _) _).more (by omega)) (new_str _ kB)).mono ?_
  rintro e wa ⟨rfl, hba, -⟩
  have HBA : Hid (Below w9.heap.size w9 wa) := ((Below.refl _ _).alloc (Nat.le_refl _) _).trans (hba.mono (by simp))
  have hsa := HBA.out.size
  have HRB2 := hide (HRB.out.below HBA.out)
  have HRC2 := hide (HRC.out.below HBA.out)
  clear hba
  have t1 : decide ([kB] = [kB]) = true := decide_eq_true rfl
  go_wp2_with fail
  refine (same_strs [kC] [kC] A1 (some ⟨wa.heap.size, 0, none⟩) 1 1 c1 1 (wa.heap.size + 1) _ rfl rfl (by simp) (by simp) ((Reads.alloc (HRB2.out.more hsa) (Nat.le_refl _) _).more (by omega)) (new_str _ kC)).mono ?_
  rintro e wb ⟨rfl, hbb, -⟩
  have HBB : Hid (Below wa.heap.size wa wb) := ((Below.refl _ _).alloc (Nat.le_refl _) _).trans (hbb.mono (by simp))
  have hsb := HBB.out.size
  have HRC3 := hide (HRC2.out.below (HBB.out.mono hsa))
  clear hbb
  have t2 : decide ([kC] = [kC]) = true := decide_eq_true rfl
  go_wp2_with fail
  refine (same_strs [kA] [kA] A2 (some ⟨wb.heap.size, 0, none⟩) 1 1 c2 1 (wb.heap.size + 1) _ rfl rfl (by simp) (by simp) ((Reads.alloc (HRC3.out.more (by omega)) (Nat.le_refl _) _).more (by omega)) (new_str _ kA)).mono ?_
  rintro e wc ⟨rfl, hbc, -⟩
  have HBC : Hid (Below wb.heap.size wb wc) := ((Below.refl _ _).alloc (Nat.le_refl _) _).trans (hbc.mono (by simp))
  have HEND : Hid (Below w.heap.size w wc) := ((HBW.out.trans (HBA.out.mono hw9)).trans (HBB.out.mono (by omega))).trans (HBC.out.mono (by omega))
  clear hbc
  have t3 : decide ([kA] = [kA]) = true := decide_eq_true rfl
  go_wp2
  go_ret
  exact ⟨rfl, HEND.out⟩
end Go.Proofs.Ytjijdpdbkpknpaa
