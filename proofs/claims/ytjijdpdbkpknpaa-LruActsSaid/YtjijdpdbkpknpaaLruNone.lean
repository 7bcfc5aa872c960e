/-
  The walk of icehouselaw21.LruNone. Condition: the responses read as their data say.
-/
import Derived.Test.YtjijdpdbkpknpaaLruTwo
namespace Go.Proofs.Ytjijdpdbkpknpaa
open Go Go.RowKit

/-- the argument's responses -/
def HsAt (W : World) (B : Nat) (A : Option Addr) (L : List (Hd × Loc)) : Prop := Reads W B 17 A L.length (hrow L) ∧ ∀ x ∈ L, HeldD W (fun q => q < B) x.1 x.2 ∧ Reach x.1
theorem HsAt.below {W W' : World} {B : Nat} {A : Option Addr} {L : List (Hd × Loc)} (h : HsAt W B A L) (hb : Below B W W') : HsAt W' B A L :=
  ⟨h.1.below hb, fun x hx => ⟨(h.2 x hx).1.keep (Same.of_below hb fun _ hq => hq), (h.2 x hx).2⟩⟩
/-- what the loop keeps -/
def NoneRel (B : Nat) (W0 : World) (gc gd sh : Nat) (i : Nat) (W : World) : Prop := ∃ S, TwoOn B W0 gc ⟨0, 0 * sh / 100, [], []⟩ gd S W ∧ S.nd ∧ S.len ≤ i

set_option maxRecDepth 100000 in
set_option maxHeartbeats 400000 in
theorem lruNone_no (A : Option Addr) (n c : Nat) (sh : Int) (w : World) (hn : 20 < n) : Calls Try.prog 4 #[.slice A n c, .int .i64 sh] w fun e w' => e = .returned (.bool true) ∧ Below w.heap.size w w' := by
  go_enter Try.func4, Try.ntmps4
  go_wp2_with fail
  refine (awake_any w).mono ?_
  rintro e w0 ⟨rfl, hb0⟩
  have HB0 := hide hb0
  have t1 : decide ((20 : Int) < (n : Int)) = true := decide_eq_true (by omega)
  clear hb0
  go_wp2_with fail
  refine (awake_any w0).mono ?_
  rintro e w1 ⟨rfl, hb1⟩
  have HB1 := hide (HB0.out.trans (hb1.mono HB0.out.size))
  clear hb1
  go_wp2
  go_ret
  exact ⟨rfl, HB1.out⟩

set_option maxRecDepth 100000 in
set_option maxHeartbeats 2000000 in
theorem lruNone_any (L : List (Hd × Loc)) (A : Option Addr) (n c : Nat) (sh : Int) (w : World) (hn : n = L.length) (hl : L.length ≤ 20) (hs : HsAt w w.heap.size A L) :
    Calls Try.prog 4 #[.slice A n c, .int .i64 sh] w fun e w' => e = .returned (.bool true) ∧ Below w.heap.size w w' := by
  subst hn
  obtain ⟨k, hk, ek⟩ := mod_pos sh 101 (by omega) (by omega)
  change (wrap64 (sh.tmod 101 + 101)).tmod 101 = (k : Int) at ek
  have HS := hide hs
  clear hs
  have t1 : decide ((20 : Int) < (L.length : Int)) = false := decide_eq_false (by omega)
  go_enter Try.func4, Try.ntmps4
  go_wp2_with fail
  refine (awake_any w).mono ?_
  rintro e w0 ⟨rfl, hb0⟩
  have HB0 := hide hb0
  have hs0 := hb0.size
  clear hb0
  go_wp2_with fail
  refine (new_any 0 k (by omega) (by omega) w0).mono ?_
  rintro e w1 ⟨rfl, h1, hb1⟩
  have H1 := hide h1
  have HB1 := hide hb1
  have hs1 := hb1.size
  clear h1 hb1
  go_wp2_with fail
  refine (new_any 1073741824 k (by omega) (by omega) w1).mono ?_
  rintro e w2 ⟨rfl, h2, hb2⟩
  have HTW : Hid (NoneRel w.heap.size w w0.heap.size w1.heap.size k 0 w2) := by
    refine ⟨_, ⟨_, _, H1.out.lift hb2, h2, fun q a b => ?_, fun q hq => ?_, fun q hq => ?_, (HB0.out.trans (HB1.out.mono hs0)).trans (hb2.mono (by omega))⟩, nd_new _ _, Nat.le_refl _⟩
    · have := H1.out.low q a; omega
    · omega
    · omega
  clear h2 hb2 H1 HB1 ek t1
  generalize w0.heap.size = gc at *
  generalize w1.heap.size = gd at *
  go_wp2_with fail
  go_loopw [9] (fun i wr => ∃ j : Nat, j ≤ L.length ∧ i = .int .i64 j ∧ NoneRel w.heap.size w gc gd k j wr) (fun i _ => L.length - (intOf i).toNat)
  case atStart => exact ⟨0, Nat.zero_le _, rfl, HTW.out⟩
  case round =>
    clear HTW
    obtain ⟨j, hj, rfl, S, hT, hnd, hlen⟩ := hrel
    have HT := hide hT
    have HND := hide hnd
    have HLE := hide hlen
    have hlen2 : S.trial.length + S.rest.length ≤ 20 := by unfold CS.len at hlen; omega
    have hwr := hT.below.size
    clear hT hnd hlen
    by_cases hlt : j < L.length
    · have HSJ := hide (HS.out.below HT.out.below)
      obtain ⟨ad, rfl, hb, hxx⟩ := HSJ.out.1.2 (by omega)
      clear hxx
      have HLX : Hid (∀ X, Below w.heap.size w X → (Instr.loadAt 40 (.pointer (some (ad.add (j * 17))))).run Try.prog X = .ok (.agg (hcs L[j].1 L[j].2).toArray) X) := fun X hX => load_held X (ad.add (j * 17)) _ _ (row_cells (HS.out.below hX).1 j hlt rfl)
      have HKX : Hid (∀ X, Below w.heap.size w X → X.cell? (ad.add (j * 17)) = some (.string L[j].1.key)) := fun X hX => by
        have := row_cells (HS.out.below hX).1 j hlt rfl 0 _ rfl
        rwa [Addr.add_zero'] at this
      have HHX : Hid (∀ X, Below w.heap.size w X → HeldD X (fun q => q < w.heap.size) L[j].1 L[j].2) := fun X hX => ((HS.out.below hX).2 _ (List.getElem_mem hlt)).1
      have HRE : Hid (Reach L[j].1) := (HS.out.2 _ (List.getElem_mem hlt)).2
      generalize L[j].1 = h at *
      generalize L[j].2 = l at *
      have i1 : (0 : Int) ≤ (j : Int) := by omega
      have i2 : (j : Int) < (L.length : Int) := by omega
      have HL1 := hide (HLX.out wr HT.out.below)
      have HSM := hide (small_any 0 h l none 0 0 w.heap.size wr ((HHX.out wr HT.out.below).fields.reads (fun q hq => hq)) hwr HRE.out)
      go_wp2_with (first | (with_reducible refine wpList_load_run rfl 40 (.tmp 51) rfl HL1.out rfl ?_) | (refine wpList_build_act rfl (.tmp 52) rfl h l rfl ?_))
      refine (unhide HSM).mono ?_
      rintro e w3 ⟨rfl, hb3⟩
      have HT3 := hide (HT.out.lift hb3 (Nat.le_refl _))
      clear hb3 HSM
      cases hsm : smallB h 0 with
      | false =>
        have HE := hide HT3.out.below
        go_wp2
        go_ret
        exact ⟨rfl, HE.out⟩
      | true =>
        have HOK := hide (smallB_ok hsm).1
        have HL3 := hide (HLX.out w3 HT3.out.below)
        have HP := hide (put_two HT3.out (Nat.le_refl _) h l (HHX.out w3 HT3.out.below) HOK.out (by show 0 + 0 < 1000; omega))
        rw [put_none] at HP
        clear hsm
        go_wp2_with (with_reducible refine wpList_load_run rfl 40 (.tmp 59) rfl HL3.out rfl ?_)
        refine (unhide HP).mono ?_
        rintro e w4 ⟨⟨A4, c4, rfl, -⟩, h4⟩
        have HT4 := hide h4
        have HU := hide (used_two h4)
        clear h4 HP HT3 HL3
        have HU2 : Hid (Calls Try.prog 14 #[.pointer (some ⟨gc, 0, none⟩)] w4 fun e W' => e = .returned (.int .i64 0) ∧ ∃ n, W' = w4.drewN n) := HU.out
        clear HU
        go_wp2_with fail
        refine (unhide HU2).mono ?_
        rintro e w5 ⟨rfl, n5, rfl⟩
        have HT5 := hide ((HT4.out.lift (below_drewN (Below.refl w4.heap.size w4) n5) (Nat.le_refl _)).swap)
        have HL5 := hide (HLX.out _ HT5.out.below)
        have HP6 := hide (put_two HT5.out (Nat.le_refl _) h l (HHX.out _ HT5.out.below) HOK.out (by omega))
        clear HU2 HT4
        generalize w4.drewN n5 = w6 at *
        go_wp2_with (with_reducible refine wpList_load_run rfl 40 (.tmp 72) rfl HL5.out rfl ?_)
        refine (unhide HP6).mono ?_
        rintro e w7 ⟨⟨A7, c7, rfl, -⟩, h7⟩
        have hk7 := HKX.out w7 h7.below
        have HLP : Hid ((putS S h).1.len ≤ S.len + 1) := len_put S h
        have HG := hide (get_two h7 (Nat.le_refl _) h.key (by have := HLP.out; unfold CS.len at this; omega))
        have HNP := hide (nd_get (nd_put HND.out h) h.key)
        have HLG := hide (len_get (putS S h).1 h.key)
        clear h7 HP6 HT5 HL5
        generalize (putS S h).1 = S7 at *
        generalize h.key = key at *
        go_wp2_with fail
        refine (unhide HG).mono ?_
        rintro e w8 ⟨⟨l8, rfl, -⟩, h8⟩
        have HR8 : Hid (NoneRel w.heap.size w gc gd k (j + 1) w8) := ⟨_, h8.swap, HNP.out, by have := HLG.out; have := HLP.out; have := HLE.out; omega⟩
        clear h8 HG hk7
        go_wp2
        go_roundw
        case rel => exact ⟨j + 1, by omega, by go_num, HR8.out⟩
        case measure => simp [intOf]; omega
    · have HK := hide (keys_on HT.out.swap.one)
      have HDK := hide (drop_keys HND.out)
      go_wp2_with fail
      refine (unhide HK).mono ?_
      rintro e w3 ⟨A1, c1, A2, c2, rfl, hr1, hr2, hb3⟩
      have HT3 := hide (HT.out.lift hb3 (Nat.le_refl _))
      have HR1 := hide hr1
      have HR2 := hide hr2
      have hw3 := hb3.size
      clear hr1 hr2 hb3 HK
      have hkl : (keysOf S.trial).length + (keysOf S.rest).length ≤ 20 := by simp [keysOf]; omega
      have HD0 := hide HDK.out.1
      have HD1 : Hid (sumC (dropS S (keysOf S.trial ++ keysOf S.rest)).1.trial + sumC (dropS S (keysOf S.trial ++ keysOf S.rest)).1.rest = 0) := by
        show _ = _
        rw [HDK.out.2.1, HDK.out.2.2]
        rfl
      have HDR : Hid (∀ (A : Option Addr) (c : Nat) (X : World), Below w3.heap.size w3 X → ReadsD X (fun q => w3.heap.size ≤ q ∧ q < X.heap.size) 1 A (keysOf S.trial ++ keysOf S.rest).length (strs (keysOf S.trial ++ keysOf S.rest)) → Calls Try.prog 17 #[.pointer (some ⟨gd, 0, none⟩), .slice A (keysOf S.trial ++ keysOf S.rest).length c] X fun e W' => e = .returned (.int .i64 (((keysOf S.trial).length : Int) + ((keysOf S.rest).length : Int))) ∧ CacheOn w.heap.size w gd (dropS S (keysOf S.trial ++ keysOf S.rest)).1 W') := fun A c X hX hr => by
        refine (drop_on HT3.out.swap.one (Nat.le_refl _) (keysOf S.trial ++ keysOf S.rest) A _ c rfl (by rw [List.length_append]; omega) hX hr (fun q hq => .inr hq.1)).mono ?_
        rintro e W' ⟨he, hc⟩
        refine ⟨?_, hc⟩
        rw [he, HD0.out, List.length_append]
        exact congrArg (fun z => Ending.returned (.int .i64 z)) (by omega)
      have HUS : Hid (∀ W', CacheOn w.heap.size w gd (dropS S (keysOf S.trial ++ keysOf S.rest)).1 W' → Calls Try.prog 14 #[.pointer (some ⟨gd, 0, none⟩)] W' fun e W'' => e = .returned (.int .i64 0) ∧ ∃ n, W'' = W'.drewN n) := fun W' hc => by
        refine (used_on hc).mono ?_
        rintro e W'' ⟨he, hn⟩
        exact ⟨by rw [he, HD1.out]; rfl, hn⟩
      clear HDK HD0 HD1 HT
      generalize (dropS S (keysOf S.trial ++ keysOf S.rest)).1 = S9 at *
      generalize keysOf S.trial = ka at *
      generalize keysOf S.rest = kb at *
      have HX1 : Hid (Below w3.heap.size w3 (w3.alloc (.cells #[] 9))) := (Below.refl _ _).alloc (Nat.le_refl _) _
      have HRA := hide ((HR1.out.fr (Fr.of_below HX1.out (fun _ => False)) (fun _ _ => id)).reads (B := w3.heap.size) (fun q hq => hq.2))
      obtain ⟨i0, hi0, hz0, hz1, hz2⟩ := info_parts info_str
      go_wp2_with (first
        | (at_builtin; refine wpList_append_any _ rfl (.tmp 88) (.tmp 89) _ rfl w3.heap.size 9 i0 _ 1 16 Try.underlying28 hi0 hz0 hz1 hz2 rfl (by omega) (.slice (some ⟨w3.heap.size, 0, none⟩) 0 0) 0 [] rfl (World.ownsRow_made w3 #[] 0 (Nat.le_refl _) (by simp only [maxLen]; omega) rfl) w3.heap.size A1 ka.length c1 (strs ka) rfl HRA.out strs_one (by simp only [maxLen]; omega) (by omega) (by simp) ?_; intro v1 w4 hown1 hg1 hat1; have HO1 := hide hown1; have HX2 := hide (HX1.out.grown hg1 (by simp) (fun q hq => by simp [Value.ownBlock] at hq; omega)); have HRB := hide ((HR2.out.fr (Fr.of_below HX2.out (fun _ => False)) (fun _ _ => id)).reads (B := w3.heap.size) (fun q hq => hq.2)); clear hown1 hg1 hat1)
        | (at_builtin; refine wpList_append_any _ rfl (.tmp 90) (.tmp 91) _ rfl w3.heap.size 9 i0 _ 1 16 Try.underlying28 hi0 hz0 hz1 hz2 rfl (by omega) v1 (0 + ka.length) ([] ++ strs ka) rfl HO1.out w3.heap.size A2 kb.length c2 (strs kb) rfl HRB.out strs_one (by simp only [maxLen]; omega) (by omega) HX2.out.size ?_; intro v2 w5 hown2 hg2 hat2; have HO2 := hide hown2; have HX3 := hide (HX2.out.grown hg2 HX2.out.size (fun q hq => (HO1.out.lt q hq).1)); clear hown2 hg2 hat2; obtain ⟨A3, c3, rfl, hr3⟩ := own_strs (l := ka ++ kb) (by have := HO2.out; rw [Nat.zero_add, List.nil_append] at this; rw [List.length_append, show strs (ka ++ kb) = strs ka ++ strs kb by simp [strs]]; exact this); have HDC := hide (HDR.out A3 c3 w5 HX3.out hr3); clear hr3))
      rw [List.length_append] at HDC
      refine (unhide HDC).mono ?_
      rintro e w6 ⟨rfl, hc6⟩
      have HU6 := hide (HUS.out w6 hc6)
      have HE6 := hide hc6.below
      clear hc6 HDC
      have te : ((ka.length : Int) + (kb.length : Int) == (ka.length : Int) + (kb.length : Int)) = true := by simp
      go_wp2_with fail
      refine (unhide HU6).mono ?_
      rintro e w7 ⟨rfl, n7, rfl⟩
      have HE7 := hide (below_drewN HE6.out n7)
      go_wp2
      go_ret
      exact ⟨rfl, HE7.out⟩
end Go.Proofs.Ytjijdpdbkpknpaa
