/-
  The walk of LruActs. Conditions: each theorem's own.
-/
import Derived.Test.YtjijdpdbkpknpaaLruActsP
import Derived.Deep.CutBlock
import Derived.Deep.CutRange
namespace Go.Proofs.Ytjijdpdbkpknpaa
open Go Go.RowKit

set_option maxRecDepth 100000 in
set_option maxHeartbeats 400000 in
theorem lruActs_no (A : Option Addr) (n c : Nat) (bu sh : Int) (w : World) (hn : 60 < n) : Calls Try.prog 5 #[.int .i64 bu, .int .i64 sh, .slice A n c] w fun e w' => e = .returned (.bool true) ∧ Below w.heap.size w w' := by
  go_enter Try.func5, Try.ntmps5
  go_wp2_with fail
  refine (awake_any w).mono ?_
  rintro e w0 ⟨rfl, hb0⟩
  have HB0 := hide hb0
  clear hb0
  have t1 : decide ((60 : Int) < (n : Int)) = true := decide_eq_true (by omega)
  go_wp2_with fail
  refine (awake_any w0).mono ?_
  rintro e w1 ⟨rfl, hb1⟩
  have HB1 := hide (HB0.out.trans (hb1.mono HB0.out.size))
  clear hb1
  go_wp2
  go_ret
  exact ⟨rfl, HB1.out⟩

set_option maxRecDepth 100000 in
set_option maxHeartbeats 400000 in
theorem lruActs_bad (A : Option Addr) (n c : Nat) (bu sh : Int) (w : World) (hn : n ≤ 60) (hbad : BadNew bu sh) : Calls Try.prog 5 #[.int .i64 bu, .int .i64 sh, .slice A n c] w fun e w' => e = .returned (.bool true) ∧ Below w.heap.size w w' := by
  go_enter Try.func5, Try.ntmps5
  go_wp2_with fail
  refine (awake_any w).mono ?_
  rintro e w0 ⟨rfl, hb0⟩
  have HB0 := hide hb0
  clear hb0
  have t1 : decide ((60 : Int) < (n : Int)) = false := decide_eq_false (by omega)
  go_wp2_with fail
  refine (new_bad bu sh hbad w0).mono ?_
  rintro e w1 ⟨rfl, hb1⟩
  have HB1 := hide (HB0.out.trans (hb1.mono HB0.out.size))
  clear hb1
  go_wp2_with fail
  refine (rnew_bad bu sh hbad w1).mono ?_
  rintro e w2 ⟨rfl, hb2⟩
  have HB2 := hide (HB1.out.trans (hb2.mono HB1.out.size))
  clear hb2
  go_wp2
  go_ret
  exact ⟨rfl, HB2.out⟩

theorem okD {o : Option Hd} (h : ∀ y, o = some y → y.ok) : (o.getD zh).names.length ≤ 1000 ∧ (o.getD zh).fields.length ≤ 1000 ∧ (o.getD zh).body.length ≤ 1000 := by
  cases o with
  | none => exact ⟨by decide, by decide, by decide⟩
  | some y => exact ⟨(h y rfl).1, (h y rfl).2.1, (h y rfl).2.2.1⟩
theorem Reads.wide {W : World} {B B2 size n : Nat} {A : Option Addr} {xs : List Value} (h : Reads W B size A n xs) (hB : B ≤ B2) : Reads W B2 size A n xs := ⟨h.1, fun hn => by
  obtain ⟨ad, e, hb, hc⟩ := h.2 hn
  exact ⟨ad, e, Nat.lt_of_lt_of_le hb hB, hc⟩⟩
theorem same_refl (l : List ByteArray) (A1 A2 : Option Addr) (c1 c2 B : Nat) (w : World) (hl : l.length ≤ 1099511627776) (h1 : Reads w B 1 A1 l.length (strs l)) (h2 : Reads w B 1 A2 l.length (strs l)) :
    Calls Try.prog 21 #[.slice A1 l.length c1, .slice A2 l.length c2] w fun e w' => e = .returned (.bool true) ∧ Below w.heap.size w w' := by
  refine (same_strs l l A1 A2 l.length l.length c1 c2 B w rfl rfl hl hl h1 h2).mono ?_
  rintro e w' ⟨he, hb, _⟩
  rw [decide_eq_true rfl] at he
  exact ⟨he, hb⟩

set_option maxRecDepth 100000 in
set_option maxHeartbeats 4000000 in
theorem lruActs_any (L : List AE) (A : Option Addr) (n c : Nat) (b s : Nat) (w : World) (hn : n = L.length) (hl : L.length ≤ 60) (hb : b ≤ 1099511627776) (hs : s ≤ 100) (hA : ActsAt w w.heap.size A L) :
    Calls Try.prog 5 #[.int .i64 (b : Int), .int .i64 (s : Int), .slice A n c] w fun e w' => e = .returned (.bool true) ∧ Below w.heap.size w w' := by
  subst hn
  have HA := hide hA
  clear hA
  have t1 : decide ((60 : Int) < (L.length : Int)) = false := decide_eq_false (by omega)
  go_enter Try.func5, Try.ntmps5
  go_wp2_with fail
  refine (awake_any w).mono ?_
  rintro e w0 ⟨rfl, hb0⟩
  have HB0 := hide hb0
  clear hb0
  go_wp2_with fail
  refine (new_any b s hb hs w0).mono ?_
  rintro e w1 ⟨rfl, h1, hb1⟩
  have HC1 := hide h1
  have HB1 := hide hb1
  clear h1 hb1
  go_wp2_with fail
  refine (rnew_any b s hb hs w1 w.heap.size (Nat.le_trans HB0.out.size HB1.out.size)).mono ?_
  rintro e w2 ⟨rfl, h2, hb2⟩
  have HW2 : Hid (ActsRel w.heap.size w w0.heap.size w1.heap.size b 0 w2) := by
    have s0 := HB0.out.size
    have s1 := HB1.out.size
    refine ⟨_, ⟨_, _, HC1.out.lift hb2, h2, fun q hq hq2 => ?_, fun q hq => by omega, (HB0.out.trans (HB1.out.mono s0)).trans (hb2.mono (by omega))⟩, nd_new _ _, Nat.le_refl _, rfl, Nat.zero_le _⟩
    have := HC1.out.low q hq
    omega
  clear h2 hb2 HC1 HB1 hb hs
  generalize w0.heap.size = gc at *
  generalize w1.heap.size = gr at *
  clear HB0
  go_wp2_with fail
  go_loopw [11] (fun i wr => ∃ j : Nat, j ≤ L.length ∧ i = .int .i64 j ∧ ActsRel w.heap.size w gc gr b j wr) (fun i _ => L.length - (intOf i).toNat)
  case atStart => exact ⟨0, Nat.zero_le _, rfl, HW2.out⟩
  case round =>
    clear HW2
    obtain ⟨j, hj, rfl, S, h2, hnd, hlen, hbu, hsum⟩ := hrel
    have H2 := hide h2
    have HND := hide hnd
    have HLN := hide hlen
    have HBU := hide hbu
    have HSM := hide hsum
    clear h2 hnd hlen hbu hsum
    by_cases hlt : j < L.length
    · obtain ⟨ad, rfl, hbk, hxx⟩ := HA.out.1.2 (by omega)
      have HBW := hide (H2.out.below)
      have hws := HBW.out.size
      have HLD := hide (load_act wr (ad.add (j * 19)) L[j] (fun i v hv => by
        rw [add_of_add]
        exact (HBW.out.cell (by rw [block_of_add]; omega)).trans (hxx _ _ (flat_get AE.cells 19 AE.len L j hlt i v hv))))
      have HX := hide ((HA.out.below HBW.out).2 L[j] (List.getElem_mem hlt))
      clear hxx
      generalize L[j] = x at *
      have hza := fun W' => zero_act W'
      have hsc := cells_act_new wr x
      have HQB0 : Hid (ABlk (wr.alloc (.cells x.cells.toArray 49)) wr.heap.size x) := Blk.new _ _ _
      have HW3 : Hid (Below wr.heap.size wr (wr.alloc (.cells x.cells.toArray 49)) ∧ (wr.alloc (.cells x.cells.toArray 49)).heap.size = wr.heap.size + 1) := ⟨(Below.refl _ _).alloc (Nat.le_refl _) _, by simp⟩
      obtain ⟨w3, hA3⟩ : ∃ w3, wr.alloc (.cells x.cells.toArray 49) = w3 := ⟨_, rfl⟩
      rw [hA3] at hsc HQB0 HW3
      have HLD3 := hide (HQB0.out.load)
      have i1 : (0 : Int) ≤ (j : Int) := by omega
      have i2 : (j : Int) < (L.length : Int) := by omega
      have HSMA := hide (small_any x.kind x.h x.l x.ka x.ks.length x.kc w.heap.size w3 (((HX.out.1.fields.reads (fun q hq => hq)).below (HW3.out.1.mono hws))) (by have := HW3.out.2; omega) HX.out.2.1)
      go_wp2_with (first | with_reducible refine wpList_load_run rfl 49 (.tmp 71) rfl HLD.out rfl ?_ | with_reducible refine wpList_load_run rfl 49 (.tmp 12) rfl HLD3.out rfl ?_)
      refine (unhide HSMA).mono ?_
      rintro e w4 ⟨rfl, hb4⟩
      obtain ⟨q12, hq12⟩ : ∃ q12, q12 = wr.heap.size := ⟨_, rfl⟩
      have HQ12 := hide hq12
      rw [← hq12] at HQB0 ⊢
      clear hq12
      have HB4 := hide hb4
      have HQ4 : Hid (ABlk w4 q12 x) := Blk.below HQB0.out hb4 HQB0.out.lt
      have HWB : Hid (Below wr.heap.size wr w4) := HW3.out.1.trans (hb4.mono HW3.out.1.size)
      clear hb4 HSMA HLD HLD3 hsc hza hA3
      cases hsm : smallB x.h x.ks.length with
      | false =>
        have HEND := hide (HBW.out.trans (HWB.out.mono hws))
        go_wp2
        go_ret
        exact ⟨rfl, HEND.out⟩
      | true =>
        have HOK := hide (smallB_ok hsm)
        have H4 := hide (H2.out.lift HWB.out (Nat.le_refl _))
        have hbs : w.heap.size ≤ w4.heap.size := Nat.le_trans hws HWB.out.size
        have HX4 : Hid (HeldD w4 (fun q => q < w.heap.size) x.h x.l ∧ Reads w4 w.heap.size 1 x.ka x.ks.length (strs x.ks)) := ⟨HX.out.1.keep (Same.of_below HWB.out fun q hq => by omega), HX.out.2.2.below (HWB.out.mono hws)⟩
        have HN12 : Hid (∀ q, q < wr.heap.size → q ≠ q12) := fun q hq e => by have := HQ12.out; omega
        clear HX hsm
        have HK15 : Hid (∀ y, Below w4.heap.size w4 y → (Instr.loadAt 40 (.pointer (some ⟨q12, 1, none⟩))).run Try.prog y = .ok (.agg (hcs x.h x.l).toArray) y ∧
            (Calls Try.prog 19 #[.agg (hcs x.h x.l).toArray] y fun e w' => e = .returned (.int .i64 (costN x.h : Nat)) ∧ Below y.heap.size y w') ∧
            (Calls Try.prog 20 #[.agg (hcs x.h x.l).toArray] y fun e w' => e = .returned (.int .i64 (costN x.h : Nat)) ∧ Below y.heap.size y w')) := fun y hy => by
          have hsz := hy.size
          have hrd := (HX4.out.1.keep (Same.of_below hy fun q hq => by omega)).fields.reads (B := w.heap.size) (fun q hq => hq)
          have h5 := HOK.out.1.2.2.2.2
          exact ⟨ABlk.held (Blk.below HQ4.out hy HQ4.out.lt), cost_any x.h x.l _ y hrd (by omega) HOK.out.1.2.1 (by omega), rcost_any x.h x.l _ y hrd (by omega) HOK.out.1.2.1 (by omega)⟩
        go_wp2_with fail
        refine wp_region_assert (listV [isV (.pointer (some ⟨q12, 1, none⟩)), isV (.agg (hcs x.h x.l).toArray), isV (.int .i64 (costN x.h : Nat)), isV (.pointer (some ⟨q12, 1, none⟩)), isV (.agg (hcs x.h x.l).toArray), isV (.int .i64 (costN x.h : Nat)), isV (.bool false)]) (by kernel_rfl) (by kernel_rfl) (listV_stable ?_) ?_ ?_
        · exact ⟨isV_stable _, isV_stable _, isV_stable _, isV_stable _, isV_stable _, isV_stable _, isV_stable _, trivial⟩
        refine ⟨fun vs wk hbk hd => ?_, fun vs wk hbk hd => ?_, fun vs wk hbk hd => ?_, fun vs wk hbk hd => ?_, fun vs wk hbk hd => ?_, fun vs wk hbk hd => ?_, fun vs wk hbk hd => ?_, trivial⟩
        -- 0: Op.fieldAddr 49 t12 1
        · clear hd
          go_wp2
          exact ⟨rfl, rfl, rfl, Below.refl _ _⟩
        -- 1: Op.load 40 t76
        · simp only [Act.put, List.setIfInBounds_toArray, List.set_cons_zero, List.set_cons_succ]
          have e0 : vs 0 = .pointer (some ⟨q12, 1, none⟩) := hd 0 (by kernel_rfl)
          clear hd
          have hld := (HK15.out wk (undrew hbk)).1
          refine wpList_load_run rfl 40 (.tmp 76) rfl hld e0 ?_
          go_wp2
          first | exact ⟨rfl, rfl, rfl, Below.refl _ _⟩ | exact ⟨rfl, rfl, e0, Below.refl _ _⟩
        -- 2: Op.call { value (Operand.func 19), args := #[t77], argTypes := #[40] }
        · simp only [Act.put, List.setIfInBounds_toArray, List.set_cons_zero, List.set_cons_succ, Nat.reduceAdd]
          have e1 : vs 1 = .agg (hcs x.h x.l).toArray := hd 1 (by kernel_rfl)
          clear hd
          have hco := (HK15.out wk (undrew hbk)).2.1
          go_wp2_with fail
          refine hco.mono ?_
          rintro e w' ⟨rfl, hb'⟩
          clear hco
          go_wp2
          exact ⟨rfl, rfl, rfl, hb'⟩
        -- 3: Op.fieldAddr 49 t12 1
        · simp only [Act.put, List.setIfInBounds_toArray, List.set_cons_zero, List.set_cons_succ, Nat.reduceAdd]
          clear hd
          go_wp2
          exact ⟨rfl, rfl, rfl, Below.refl _ _⟩
        -- 4: Op.load 40 t79
        · simp only [Act.put, List.setIfInBounds_toArray, List.set_cons_zero, List.set_cons_succ, Nat.reduceAdd]
          have e3 : vs 3 = .pointer (some ⟨q12, 1, none⟩) := hd 3 (by kernel_rfl)
          clear hd
          have hld := (HK15.out wk (undrew hbk)).1
          refine wpList_load_run rfl 40 (.tmp 79) rfl hld e3 ?_
          go_wp2
          first | exact ⟨rfl, rfl, rfl, Below.refl _ _⟩ | exact ⟨rfl, rfl, e3, Below.refl _ _⟩
        -- 5: Op.call { value (Operand.func 20), args := #[t80], argTypes := #[40] }
        · simp only [Act.put, List.setIfInBounds_toArray, List.set_cons_zero, List.set_cons_succ, Nat.reduceAdd]
          have e4 : vs 4 = .agg (hcs x.h x.l).toArray := hd 4 (by kernel_rfl)
          clear hd
          have hco := (HK15.out wk (undrew hbk)).2.2
          go_wp2_with fail
          refine hco.mono ?_
          rintro e w' ⟨rfl, hb'⟩
          clear hco
          go_wp2
          exact ⟨rfl, rfl, rfl, hb'⟩
        -- 6: Op.binOp BinOp.neq 3 t78 t81 3
        · simp only [Act.put, List.setIfInBounds_toArray, List.set_cons_zero, List.set_cons_succ, Nat.reduceAdd]
          have e2 : vs 2 = .int .i64 (costN x.h : Nat) := hd 2 (by kernel_rfl)
          have e5 : vs 5 = .int .i64 (costN x.h : Nat) := hd 5 (by kernel_rfl)
          have htb : ((costN x.h : Int) != (costN x.h : Int)) = false := by simp
          clear hd
          go_wp2
          first | exact ⟨rfl, rfl, rfl, Below.refl _ _⟩ | exact ⟨rfl, rfl, e5, Below.refl _ _⟩ | exact ⟨rfl, rfl, e2, Below.refl _ _⟩
        intro vs wk hbk hd
        simp only [putAll, Act.put, List.setIfInBounds_toArray, List.set_cons_zero, List.set_cons_succ, Nat.reduceAdd]
        have e6 : vs 6 = .bool false := hd 6 (by decide)
        clear hd
        simp only [e6]
        clear e6
        have HB5 := hide (undrew hbk)
        have H5 := hide (H4.out.lift HB5.out (Nat.le_refl _))
        have HQ5 : Hid (ABlk wk q12 x) := Blk.below HQ4.out HB5.out HQ4.out.lt
        have HX5 : Hid (HeldD wk (fun q => q < w.heap.size) x.h x.l ∧ Reads wk w.heap.size 1 x.ka x.ks.length (strs x.ks)) := ⟨HX4.out.1.keep (Same.of_below HB5.out fun q hq => by omega), HX4.out.2.below (HB5.out.mono hbs)⟩
        have hbs5 : w.heap.size ≤ wk.heap.size := Nat.le_trans hbs HB5.out.size
        clear hbk HK15 HQ4 HX4 H4
        have k0 := HQ5.out.kind
        have HW05 := hide (HWB.out.trans (HB5.out.mono HWB.out.size))
        obtain ⟨v0, rfl⟩ : ∃ v0, v0 = wk := ⟨_, rfl⟩
        go_upto_block 2 with fail
        go_cut [13, 14, 15, 16, 17, 18, 19, 20, 21, 22, 23, 24, 25, 26] from 63 to 258 (fun s13 s14 s15 s16 s17 s18 s19 s20 s21 s22 s23 s24 s25 s26 wx => ActsRel w.heap.size w gc gr b (j + 1) wx)
        case first =>
          have HREL : Hid (∀ X, Below v0.heap.size v0 X → ActsRel w.heap.size w gc gr b (j + 1) X) := fun X hX => ⟨S, H5.out.lift hX (Nat.le_refl _), HND.out, Nat.le_succ_of_le HLN.out, HBU.out, HSM.out⟩
          obtain ⟨Mc, Mr, hc, hr, hd, hB, hbw⟩ := H2.out
          have HC := hide (hc.lift HW05.out)
          have HR := hide (hr.lift HW05.out)
          have HD := hide hd
          have HMB := hide hB
          have HBW5 := hide (hbw.trans (HW05.out.mono hws))
          have HRB : Hid (∀ q, Mr q → w.heap.size ≤ q) := fun q hq => (hr.low q hq).1
          have HNQ : Hid (¬ (Mc q12 ∨ Mr q12)) := fun e => by
            have h12 := HQ12.out
            rcases e with e | e
            · have := hc.low q12 e; omega
            · have := (hr.low q12 e).2; omega
          have HQX : Hid (∀ X, Fr (fun q => Mc q ∨ Mr q) v0 X → ABlk X q12 x) := fun X hX => hX.blk HQ5.out HNQ.out
          have hlen6 : S.trial.length + S.rest.length < 1000 := by have := HLN.out; unfold CS.len at this; omega
          have HL6 := hide hlen6
          clear hc hr hd hB hbw hlen6
          by_cases e0 : x.kind = 0
          · as_aux_lemma =>
              have b0 : (x.kind == (0 : Int)) = true := beq_iff_eq.2 e0
              clear e0
              have hz := fun W' => zero_held W'
              have HLD := hide HQ5.out.held
              have hsc := cells_held_new v0 x.h x.l
              have HHB13 : Hid (Blk (v0.alloc (.cells (hcs x.h x.l).toArray 40)) v0.heap.size 40 (hcs x.h x.l).toArray) := Blk.new _ _ _
              have HU1 : Hid (Below v0.heap.size v0 (v0.alloc (.cells (hcs x.h x.l).toArray 40)) ∧ (v0.alloc (.cells (hcs x.h x.l).toArray 40)).heap.size = v0.heap.size + 1) := ⟨(Below.refl _ _).alloc (Nat.le_refl _) _, by simp⟩
              obtain ⟨u1, hA1⟩ : ∃ u1, v0.alloc (.cells (hcs x.h x.l).toArray 40) = u1 := ⟨_, rfl⟩
              rw [hA1] at hsc HHB13 HU1
              have z1 := HU1.out.2
              have HU2 : Hid (Below v0.heap.size v0 (u1.alloc (.cells #[] 5)) ∧ Below u1.heap.size u1 (u1.alloc (.cells #[] 5)) ∧ (u1.alloc (.cells #[] 5)).heap.size = u1.heap.size + 1) := ⟨HU1.out.1.alloc (by omega) _, (Below.refl _ _).alloc (Nat.le_refl _) _, by simp⟩
              have HOW : Hid ((u1.alloc (.cells #[] 5)).ownsRow u1.heap.size 5 1 (.slice (some ⟨u1.heap.size, 0, none⟩) 0 0) 0 []) := World.ownsRow_made u1 #[] 0 (Nat.le_refl _) (by simp only [maxLen]; omega) rfl
              have c17 : (u1.alloc (.cells #[] 5)).cell? ⟨q12, 17, none⟩ = some (.slice x.l.ay x.h.bytes.length x.l.cy) := ABlk.bytes (Blk.below HQ5.out HU2.out.1 HQ5.out.lt)
              have HRD : Hid (Reads (u1.alloc (.cells #[] 5)) w.heap.size 1 x.l.ay x.h.bytes.length (byts x.h.bytes)) := (HX5.out.1.bytes.reads (fun q hq => hq)).below (HU2.out.1.mono hbs5)
              have hbb : x.h.bytes.length ≤ 2000 := HOK.out.2.2.2.2.2.1
              obtain ⟨i0, hi0, hz0, hz1, hz2⟩ := info_parts info_cbyt
              have HB13 : Hid (∀ X, Fr (fun q => q = u1.heap.size) (u1.alloc (.cells #[] 5)) X → Blk X v0.heap.size 40 (hcs x.h x.l).toArray) := fun X hX => hX.blk (HHB13.out.below HU2.out.2.1 HHB13.out.lt) (fun e => by omega)
              have HZ1 := hide z1
              clear HREL z1
              go_wp2_with (first | with_reducible refine wpList_load_run rfl 40 (.tmp 117) rfl HLD.out rfl ?_ | (at_builtin; go_loud (refine wpList_append_any _ rfl (.tmp 119) (.tmp 122) _ rfl u1.heap.size 5 i0 _ 1 1 Try.underlying27 hi0 hz0 hz1 hz2 rfl (by omega) (.slice (some ⟨u1.heap.size, 0, none⟩) 0 0) 0 [] rfl HOW.out w.heap.size x.l.ay x.h.bytes.length x.l.cy (byts x.h.bytes) rfl HRD.out byts_one (by simp only [maxLen]; omega) (by omega) (by simp) ?_; intro v1 w1 hown1 hg1 hat1; rw [Nat.zero_add, List.nil_append] at hown1; obtain ⟨A9, c9, e9, _⟩ := own_form hown1; subst e9; have HG1 := hide hg1; have HOW1 := hide hown1; have hfw : Fr (fun q => q = u1.heap.size) (u1.alloc (.cells #[] 5)) w1 := (Fr.of_grown hg1).weak (fun q _ e => by injection e with e; exact e.symm); have HFW := hide hfw; have HB1 := hide (HB13.out w1 hfw); have qq13 := HB1.out.cell 16; change w1.cell? ⟨v0.heap.size, 16, none⟩ = some (.slice x.l.ay x.h.bytes.length x.l.cy) at qq13; have fz13 := HB1.out.frozen 16; clear hown1 hg1 hat1 hfw)))
              have HU3 : Hid (Below v0.heap.size v0 (w1.setCell ⟨v0.heap.size, 16, none⟩ (.slice A9 x.h.bytes.length c9)) ∧ Fr (fun q => q = v0.heap.size) w1 (w1.setCell ⟨v0.heap.size, 16, none⟩ (.slice A9 x.h.bytes.length c9))) := by
                have hz1 := HZ1.out
                have h12 : Below v0.heap.size v0 w1 := HU2.out.1.trans (HFW.out.below (by have := HU2.out.2.2; omega) (fun q e => by omega))
                have hf := Fr.of_set w1 ⟨v0.heap.size, 16, none⟩ (.slice A9 x.h.bytes.length c9)
                exact ⟨h12.trans (hf.below h12.size (fun q e => by have e' : q = v0.heap.size := e; omega)), hf⟩
              have HQ13 : Hid (Blk (w1.setCell ⟨v0.heap.size, 16, none⟩ (.slice A9 x.h.bytes.length c9)) v0.heap.size 40 (hcs x.h { x.l with ay := A9, cy := c9 }).toArray) := HB1.out.set_ 16 (.slice A9 x.h.bytes.length c9)
              have HOW3 : Hid ((w1.setCell ⟨v0.heap.size, 16, none⟩ (.slice A9 x.h.bytes.length c9)).ownsRow u1.heap.size 5 1 (.slice A9 x.h.bytes.length c9) x.h.bytes.length (byts x.h.bytes)) := HU3.out.2.own HOW1.out (fun q hq e => by have := (HOW1.out.lt q hq).1; have hz1 := HZ1.out; omega)
              clear qq13 fz13 hsc hA1 HLD HHB13 HU1 HU2 HOW c17 HRD HB13 HFW HB1 HOW1 HG1
              obtain ⟨l5, hl5⟩ : ∃ l5 : Loc, l5 = { x.l with ay := A9, cy := c9 } := ⟨_, rfl⟩
              have HL5 : Hid (l5.an = x.l.an ∧ l5.af = x.l.af ∧ l5.ab = x.l.ab ∧ l5.ay = A9 ∧ l5.cy = c9) := by rw [hl5]; exact ⟨rfl, rfl, rfl, rfl, rfl⟩
              rw [← hl5] at HQ13
              clear hl5
              generalize w1.setCell ⟨v0.heap.size, 16, none⟩ (.slice A9 x.h.bytes.length c9) = u3 at *
              have hzz1 := HZ1.out
              have hsz3 := HU3.out.1.size
              have HQLT := HQ13.out.lt
              have HMCL : Hid (∀ q, Mc q → q < v0.heap.size) := fun q hq => HC.out.low q hq
              have HML : Hid (∀ q, Mr q → q < v0.heap.size) := fun q hq => (HR.out.low q hq).2
              have HNM : Hid (∀ q, v0.heap.size ≤ q → ¬ (Mc q ∨ Mr q)) := fun q hq e => by
                rcases e with e | e
                · have := HMCL.out q e; omega
                · have := HML.out q e; omega
              have HNB : Hid (∀ q, q < w.heap.size → ¬ (Mc q ∨ Mr q)) := fun q hq e => by
                rcases e with e | e
                · have := HMB.out q e; omega
                · have := HRB.out q e; omega
              have HC3 := hide (HC.out.lift HU3.out.1)
              have HR3 := hide (HR.out.lift HU3.out.1)
              have HF03 : Hid (∀ X, Fr (fun q => Mc q ∨ Mr q) u3 X → Fr (fun q => Mc q ∨ Mr q) v0 X) := fun X hX => (Fr.of_below HU3.out.1 _).trans hX (fun _ _ e => e)
              have HLQ : Hid (∀ X, Fr (fun q => Mc q ∨ Mr q) u3 X → (Instr.loadAt 40 (.pointer (some ⟨v0.heap.size, 0, none⟩))).run Try.prog X = .ok (.agg (hcs x.h l5).toArray) X ∧ (Instr.loadAt 40 (.pointer (some ⟨q12, 1, none⟩))).run Try.prog X = .ok (.agg (hcs x.h x.l).toArray) X) := fun X hX => ⟨load_held_blk X _ _ x.h l5 (hX.blk HQ13.out (HNM.out _ (Nat.le_refl _))), ABlk.held (HQX.out X (HF03.out X hX))⟩
              have HT3 : Hid (ReadsT u3 (fun q => u1.heap.size ≤ q ∧ q < u3.heap.size) 1 A9 x.h.bytes.length (byts x.h.bytes)) := hide (ReadsD.weak (D' := fun q => (u1.heap.size ≤ q ∧ q < u3.heap.size) ∧ Thawed u3 q) (ReadsT.of_own HOW3.out) fun q hq => ⟨⟨hq.1, (by
                obtain ⟨_, _, e⟩ := hq.2
                exact (Array.getElem?_eq_some_iff.1 e).1)⟩, hq.2⟩)
              have HH3 : Hid (HeldD u3 (fun q => q < w.heap.size ∨ (u1.heap.size ≤ q ∧ q < u3.heap.size)) x.h l5) := by
                have h0 := (HX5.out.1.keep (Same.of_below HU3.out.1 fun q hq => by omega)).weak (D' := fun q => q < w.heap.size ∨ (u1.heap.size ≤ q ∧ q < u3.heap.size)) (fun q hq => .inl hq)
                refine ⟨?_, ?_, ?_, ?_⟩
                · rw [HL5.out.1]; exact h0.names
                · rw [HL5.out.2.1]; exact h0.fields
                · rw [HL5.out.2.2.1]; exact h0.body
                · rw [HL5.out.2.2.2.1]; exact HT3.out.rd.weak (fun q hq => .inr hq)
              have HND5 : Hid (∀ q, (q < w.heap.size ∨ (u1.heap.size ≤ q ∧ q < u3.heap.size)) → ¬ (Mc q ∨ Mr q)) := fun q hq => by
                rcases hq with hq | hq
                · exact HNB.out q hq
                · exact HNM.out q (by omega)
              have hpn := nd_put HND.out x.h
              have hpl := len_put S x.h
              have hps := put_sum (S := S) x.h (by have h1 := HSM.out; have h2 := HBU.out; unfold CS.sum; omega)
              have HPC : Hid (∀ X, CacheAt X Mc gc S → Fr (fun q => Mc q ∨ Mr q) u3 X → Calls Try.prog 10 #[.pointer (some ⟨gc, 0, none⟩), .agg (hcs x.h l5).toArray] X fun e W' => (∃ A c, e = .returned (.slice A (putS S x.h).2.length c) ∧ ReadsD W' (fun q => u3.heap.size ≤ q) 1 A (putS S x.h).2.length (strs (putS S x.h).2)) ∧ ∃ M', CacheAt W' M' gc (putS S x.h).1 ∧ (∀ q, M' q → Mc q ∨ X.heap.size ≤ q) ∧ Fr Mc X W') := fun X hX hf => by
                have hxs := hf.size
                refine (put_any x.h l5 (fun q => q < w.heap.size ∨ (u1.heap.size ≤ q ∧ q < u3.heap.size)) hX (HH3.out.fr hf HND5.out) (fun q hq => ⟨by omega, fun e => HND5.out q hq (.inl e)⟩) HOK.out.1 HL6.out).mono ?_
                rintro e W' ⟨A, c, h1, h2, h3⟩
                exact ⟨⟨A, c, h1, h2.weak fun q hq => Nat.le_trans hxs hq.1⟩, h3⟩
              have HPR : Hid (∀ X, RefAt X Mr w.heap.size gr S → Fr (fun q => Mc q ∨ Mr q) u3 X → Calls Try.prog 22 #[.pointer (some ⟨gr, 0, none⟩), .agg (hcs x.h x.l).toArray] X fun e W' => (∃ A c, e = .returned (.slice A (putS S x.h).2.length c) ∧ ReadsD W' (fun q => u3.heap.size ≤ q) 1 A (putS S x.h).2.length (strs (putS S x.h).2)) ∧ ∃ M', RefAt W' M' w.heap.size gr (putS S x.h).1 ∧ (∀ q, M' q → Mr q ∨ X.heap.size ≤ q) ∧ Fr Mr X W') := fun X hX hf => by
                have hxs := hf.size
                refine (rput_any hX x.h x.l ((HX5.out.1.keep (Same.of_below HU3.out.1 fun q hq => by omega)).fr hf HNB.out) HOK.out.1 HL6.out).mono ?_
                rintro e W' ⟨⟨A, c, h1, h2⟩, h3⟩
                exact ⟨⟨A, c, h1, h2.weak fun q hq => Nat.le_trans hxs hq.1⟩, h3⟩
              have HLS : Hid ((putS S x.h).2.length ≤ 1099511627776) := by
                have h1 := put_out_len S x.h
                have h2 := HL6.out
                show _ ≤ _
                omega
              generalize (putS S x.h).2 = ls at *
              generalize (putS S x.h).1 = S1 at *
              have HND1 := hide hpn
              have HLN1 : Hid (S1.len ≤ j + 1) := by have := HLN.out; show _ ≤ _; omega
              have HBU1 : Hid (S1.budget = b) := by rw [hps.2]; exact HBU.out
              have HSM1 : Hid (sumC S1.trial + sumC S1.rest ≤ b) := by have h1 := hps.1; have h2 := HBU.out; unfold CS.sum at h1; show _ ≤ _; omega
              have HPH := hide (PhC.start (ic := 2) (ir := 6) (S' := S1) HC3.out HR3.out HD.out)
              have HKD : Hid (∀ q, u3.heap.size ≤ q → ¬ (Mc q ∨ Mr q)) := fun q hq => HNM.out q (by omega)
              clear hpn hpl hps hzz1 hz hbb hi0 hz0 hz1 hz2
              refine wp_region_phase (Fr (fun q => Mc q ∨ Mr q)) (PhC 2 6 u3 w.heap.size gc gr Mc Mr S S1) (listV [isV (.pointer (some ⟨gc, 0, none⟩)), isV (.agg (hcs x.h l5).toArray), CloneV (fun q => u3.heap.size ≤ q) 1 ls.length (strs ls), isV (.pointer (some ⟨gr, 0, none⟩)), isV (.pointer (some ⟨q12, 1, none⟩)), isV (.agg (hcs x.h x.l).toArray), CloneV (fun q => u3.heap.size ≤ q) 1 ls.length (strs ls), isV (.bool true), isV (.bool false)]) (by kernel_rfl) (by kernel_rfl) (pre_fr _) (listV_stableP ?_) HPH.out ?_ ?_
              · exact ⟨isV_stableP _ _, isV_stableP _ _, (CloneV_stable HKD.out), isV_stableP _ _, isV_stableP _ _, isV_stableP _ _, (CloneV_stable HKD.out), isV_stableP _ _, isV_stableP _ _, trivial⟩
              refine ⟨fun vs3 wk3 L hbk3 hi hL hcl hd => ?_, fun vs3 wk3 L hbk3 hi hL hcl hd => ?_, fun vs3 wk3 L hbk3 hi hL hcl hd => ?_, fun vs3 wk3 L hbk3 hi hL hcl hd => ?_, fun vs3 wk3 L hbk3 hi hL hcl hd => ?_, fun vs3 wk3 L hbk3 hi hL hcl hd => ?_, fun vs3 wk3 L hbk3 hi hL hcl hd => ?_, fun vs3 wk3 L hbk3 hi hL hcl hd => ?_, fun vs3 wk3 L hbk3 hi hL hcl hd => ?_, trivial⟩
              -- 0: Op.move t7
              · clear hd
                go_wp2
                exact ⟨rfl, rfl, rfl, Fr.refl _ _, hi.stay (by decide) (by decide) (Below.refl _ _)⟩
              -- 1: Op.load 40 t13
              · simp only [Act.put, List.setIfInBounds_toArray, List.set_cons_zero, List.set_cons_succ]
                clear hd
                have hld := (HLQ.out wk3 (undrewF hbk3)).1
                refine wpList_load_run rfl 40 (.tmp 13) rfl hld rfl ?_
                go_wp2
                exact ⟨rfl, rfl, rfl, Fr.refl _ _, hi.stay (by decide) (by decide) (Below.refl _ _)⟩
              -- 2: Op.call { value (Operand.func 10), args := #[t125, t126], argTypes := 
              · simp only [Act.put, List.setIfInBounds_toArray, List.set_cons_zero, List.set_cons_succ, Nat.reduceAdd]
                have e0 : vs3 0 = .pointer (some ⟨gc, 0, none⟩) := (hd 0 (by kernel_rfl)).2
                have e1 : vs3 1 = .agg (hcs x.h l5).toArray := (hd 1 (by kernel_rfl)).2
                clear hd
                have hfk := undrewF hbk3
                have hcs := hi.cache hL
                go_wp2_with fail
                refine (HPC.out wk3 hcs hfk).mono ?_
                rintro e w' ⟨⟨A, c, rfl, hr'⟩, M', hm1, hm2, hm3⟩
                have hi' := hi.stepC (by decide) HMB.out hL hm1 hm2 hm3
                have hk2 := hm3.weak (O' := fun q => Mc q ∨ Mr q) (fun q _ e => .inl e)
                clear hi hcs hm1 hm2 hm3
                go_wp2
                exact ⟨rfl, rfl, ⟨A, c, rfl, hr'⟩, hk2, hi'⟩
              -- 3: Op.move t9
              · simp only [Act.put, List.setIfInBounds_toArray, List.set_cons_zero, List.set_cons_succ, Nat.reduceAdd]
                clear hd
                go_wp2
                exact ⟨rfl, rfl, rfl, Fr.refl _ _, hi.stay (by decide) (by decide) (Below.refl _ _)⟩
              -- 4: Op.fieldAddr 49 t12 1
              · simp only [Act.put, List.setIfInBounds_toArray, List.set_cons_zero, List.set_cons_succ, Nat.reduceAdd]
                clear hd
                go_wp2
                exact ⟨rfl, rfl, rfl, Fr.refl _ _, hi.stay (by decide) (by decide) (Below.refl _ _)⟩
              -- 5: Op.load 40 t129
              · simp only [Act.put, List.setIfInBounds_toArray, List.set_cons_zero, List.set_cons_succ, Nat.reduceAdd]
                have e4 : vs3 4 = .pointer (some ⟨q12, 1, none⟩) := (hd 4 (by kernel_rfl)).2
                clear hd
                have hld := (HLQ.out wk3 (undrewF hbk3)).2
                refine wpList_load_run rfl 40 (.tmp 129) rfl hld e4 ?_
                go_wp2
                first | exact ⟨rfl, rfl, rfl, Fr.refl _ _, hi.stay (by decide) (by decide) (Below.refl _ _)⟩ | exact ⟨rfl, rfl, e4, Fr.refl _ _, hi.stay (by decide) (by decide) (Below.refl _ _)⟩
              -- 6: Op.call { value (Operand.func 22), args := #[t128, t130], argTypes := 
              · simp only [Act.put, List.setIfInBounds_toArray, List.set_cons_zero, List.set_cons_succ, Nat.reduceAdd]
                have e3 : vs3 3 = .pointer (some ⟨gr, 0, none⟩) := (hd 3 (by kernel_rfl)).2
                have e5 : vs3 5 = .agg (hcs x.h x.l).toArray := (hd 5 (by kernel_rfl)).2
                clear hd
                have hfk := undrewF hbk3
                have hcs := hi.ref hL
                go_wp2_with fail
                refine (HPR.out wk3 hcs hfk).mono ?_
                rintro e w' ⟨⟨A, c, rfl, hr'⟩, M', hm1, hm2, hm3⟩
                have hi' := hi.stepR (by decide) hL hm1 hm2 hm3
                have hk2 := hm3.weak (O' := fun q => Mc q ∨ Mr q) (fun q _ e => .inr e)
                clear hi hcs hm1 hm2 hm3
                go_wp2
                exact ⟨rfl, rfl, ⟨A, c, rfl, hr'⟩, hk2, hi'⟩
              -- 7: Op.call { value (Operand.func 21), args := #[t127, t131], argTypes := 
              · simp only [Act.put, List.setIfInBounds_toArray, List.set_cons_zero, List.set_cons_succ, Nat.reduceAdd]
                obtain ⟨A2, c2, e2, r2⟩ := (show (CloneV (fun q => u3.heap.size ≤ q) 1 ls.length (strs ls)) (vs3 2) wk3 from (hd 2 (by kernel_rfl)).2)
                obtain ⟨A6, c6, e6, r6⟩ := (show (CloneV (fun q => u3.heap.size ≤ q) 1 ls.length (strs ls)) (vs3 6) wk3 from (hd 6 (by kernel_rfl)).2)
                clear hd
                have hsa := same_refl ls A2 A6 c2 c6 wk3.heap.size wk3 HLS.out ((r2.lt (by decide)).reads fun q hq => hq.2) ((r6.lt (by decide)).reads fun q hq => hq.2)
                go_wp2_with fail
                refine hsa.mono ?_
                rintro e w' ⟨rfl, hb'⟩
                have hi' := hi.stay (k := 7) (by decide) (by decide) hb'
                have hk2 := Fr.of_below hb' (fun q => Mc q ∨ Mr q)
                clear hi hsa hb'
                go_wp2
                exact ⟨rfl, rfl, rfl, hk2, hi'⟩
              -- 8: Op.unOp UnOp.not 4 t132
              · simp only [Act.put, List.setIfInBounds_toArray, List.set_cons_zero, List.set_cons_succ, Nat.reduceAdd]
                have e7 : vs3 7 = .bool true := (hd 7 (by kernel_rfl)).2
                clear hd
                go_wp2
                first | exact ⟨rfl, rfl, rfl, Fr.refl _ _, hi.stay (by decide) (by decide) (Below.refl _ _)⟩ | exact ⟨rfl, rfl, e7, Fr.refl _ _, hi.stay (by decide) (by decide) (Below.refl _ _)⟩
              intro vs3 wk3 L hbk3 hL hi hd
              simp only [putAll, Act.put, List.setIfInBounds_toArray, List.set_cons_zero, List.set_cons_succ, Nat.reduceAdd]
              have e8 : vs3 8 = .bool false := hd 8 (by decide)
              clear hd
              simp only [e8]
              clear e8
              have HFR := hide (undrewF hbk3)
              obtain ⟨Mc1, Mr1, d1, d2, d3, d4, d5⟩ := hi.done (hL 2 (by decide)) (hL 6 (by decide))
              have HZ1' := HZ1.out
              have HBE : Hid (Below w.heap.size w wk3) := HBW5.out.trans ((HF03.out _ HFR.out).below hbs5 (fun q e => e.elim (HMB.out q) (HRB.out q)))
              have hmcb : ∀ q, Mc1 q → w.heap.size ≤ q := fun q hq => by
                rcases d3 q hq with k | k
                · exact HMB.out q k
                · omega
              have HFI : Hid (ActsRel w.heap.size w gc gr b (j + 1) wk3) := ⟨S1, ⟨Mc1, Mr1, d1, d2, d5, hmcb, HBE.out⟩, HND1.out, HLN1.out, HBU1.out, HSM1.out⟩
              have HT5 := hide (HT3.out.fr HFR.out (fun q hq => HND5.out q (.inr hq)))
              have c16 : wk3.cell? ⟨v0.heap.size, 16, none⟩ = some (.slice l5.ay x.h.bytes.length l5.cy) := (HFR.out.blk HQ13.out (HNM.out _ (Nat.le_refl _))).cell 16
              rw [HL5.out.2.2.2.1] at c16
              obtain ⟨nb, hnb⟩ : ∃ nb, x.h.bytes.length = nb := ⟨_, rfl⟩
              rw [hnb] at c16
              have h16sz := HFR.out.size
              by_cases hb0 : 0 < nb
              · obtain ⟨ad5, had, ⟨⟨hd1, hd2⟩, hth⟩, hcell⟩ := HT5.out.2 (by omega)
                rw [had] at c16
                obtain ⟨vb, hvb⟩ : ∃ vb : Int, (byts x.h.bytes)[0]? = some (.int .u8 vb) := by
                  have h0 : 0 < x.h.bytes.length := by omega
                  exact ⟨((x.h.bytes[0]'h0).toNat : Int), by simp [byts, List.getElem?_eq_getElem h0]⟩
                have cb0 := hcell 0 _ hvb
                rw [Addr.add_zero'] at cb0
                have cf0 := thawed_frozen hth
                obtain ⟨cb, hcb⟩ : ∃ cb, l5.cy = cb := ⟨_, rfl⟩
                rw [hcb] at c16
                have HFIN : Hid (∀ X, Below wk3.heap.size wk3 X → ∀ u, ActsRel w.heap.size w gc gr b (j + 1) (X.setCell ad5 u)) := fun X hX u => by
                  refine bump_rel (d1.lift hX) (d2.lift hX) d5 hmcb (HBE.out.trans (hX.mono (by omega))) ad5 (fun e => ?_) (fun e => ?_) (by omega) (by have := hX.size; omega) HND1.out HLN1.out HBU1.out HSM1.out u
                  · rcases d3 _ e with k | k
                    · have := HMCL.out _ k; omega
                    · omega
                  · rcases d4 _ e with k | k
                    · have := HML.out _ k; omega
                    · omega
                have nb1 : (0 : Int) < (nb : Int) := by omega
                clear hth hcell hnb hcb had hvb hd1 hd2 hi hL hbk3 d1 d2 d3 d4 d5 hmcb HZ1'
                go_wp2_with fail
                refine region_tail 8 (by kernel_rfl) (by kernel_rfl) ?_
                intro Y hY
                have y16 : Y.cell? ⟨v0.heap.size, 16, none⟩ = some (.slice (some ad5) nb cb) := by rw [hY]; exact c16
                have yb : Y.cell? ad5 = some (.int .u8 vb) := by rw [hY]; exact cb0
                have yf : Y.frozen? ad5 = false := by rw [hY]; exact cf0
                have HFY := hide (HFIN.out Y (by rw [hY]; exact (Below.refl _ _).drew))
                clear hY c16 cb0 cf0
                simp only [List.take_succ_cons, List.take_zero, List.drop_succ_cons, List.drop_zero]
                still_step
                still_step
                still_step
                still_step
                still_step
                still_step
                still_step
                still_step
                refine wpStill_nil ?_
                go_wp2
                go_meet
                exact HFY.out _
              · have h0 : nb = 0 := by omega
                rw [h0] at c16
                clear hnb h0 hb0 hi hL hbk3 d1 d2 d3 d4 d5 hmcb HZ1'
                go_wp2
                go_meet
                exact HFI.out
          · have b0 : (x.kind == (0 : Int)) = false := beq_eq_false_iff_ne.2 e0
            by_cases e1 : x.kind = 1
            · as_aux_lemma =>
                have b1 : (x.kind == (1 : Int)) = true := beq_iff_eq.2 e1
                clear e0 e1
                have hl6 := HL6.out
                have HGC := hide (get_anyX x.h.key HC.out hl6)
                have HGR : Hid (∀ X, RefAt X Mr w.heap.size gr S → Calls Try.prog 23 #[.pointer (some ⟨gr, 0, none⟩), .string x.h.key] X fun e W' => RGiven w.heap.size (getS S x.h.key).2 e W' ∧ RefTo X Mr w.heap.size gr (getS S x.h.key).1 W') := fun X hX => rget_any hX HND.out x.h.key hl6
                have hgp : (getS S x.h.key).2 = peekS S x.h.key := by
                  cases hp : peekS S x.h.key with
                  | none => rw [peek_get_no hp]
                  | some y => rw [(peek_get HND.out _ hp).1]
                have hyo := okD (o := (getS S x.h.key).2) (fun y hy => peek_ok HR.out.sok (by rw [← hgp]; exact hy))
                have hnd2 := nd_get HND.out x.h.key
                have hln2 := len_get S x.h.key
                have hsm2 := get_sum S x.h.key
                have hbb : ((getS S x.h.key).2.isSome != (getS S x.h.key).2.isSome) = false := by simp
                have k1 := HQ5.out.key
                have HK1 : Hid (∀ X, Fr (fun q => Mc q ∨ Mr q) v0 X → X.cell? ⟨q12, 1, none⟩ = some (.string x.h.key)) := fun X hX => ABlk.key (HQX.out X hX)
                have HCR0 := hide (CR2.start (v0 := v0) HC.out HR.out HD.out)
                have HML : Hid (∀ q, Mr q → q < v0.heap.size) := fun q hq => (HR.out.low q hq).2
                unfold GetPostX at HGC
                unfold RGiven RefTo at HGR
                clear hgp
                generalize (getS S x.h.key).2.getD zh = y at *
                generalize (getS S x.h.key).2.isSome = bo at *
                generalize (getS S x.h.key).1 = S2 at *
                have HYO := hide hyo
                have HND2 := hide hnd2
                have HLN2 : Hid (S2.len ≤ j + 1) := by rw [hln2]; exact Nat.le_succ_of_le HLN.out
                have HBU2 : Hid (S2.budget = b) := by rw [hsm2.2]; exact HBU.out
                have HSM2 : Hid (sumC S2.trial + sumC S2.rest ≤ b) := by have h1 := hsm2.1; have h2 := HSM.out; unfold CS.sum at h1; rw [h1]; exact h2
                have hz := fun W' => zero_held W'
                clear hyo hnd2 hln2 hsm2 hl6
                go_wp2_with fail
                refine (unhide HGC).mono ?_
                rintro e u1 ⟨M1, hc1, hm1, hf1, l1, rfl, hh1, ht1⟩
                have HCR1 := hide (HCR0.out.stepC HMB.out hbs5 hc1 hm1 hf1)
                have z1 := hf1.size
                have HH1 := hide hh1
                have HT1 : Hid (ReadsT u1 (fun q => v0.heap.size ≤ q ∧ ¬ M1 q ∧ q < u1.heap.size) 1 l1.ay y.bytes.length (byts y.bytes)) := hide (ReadsD.weak (D' := fun q => (v0.heap.size ≤ q ∧ ¬ M1 q ∧ q < u1.heap.size) ∧ Thawed u1 q) ht1 fun q hq => ⟨⟨hq.1.1, hq.1.2, (by
                  obtain ⟨_, _, e⟩ := hq.2
                  exact (Array.getElem?_eq_some_iff.1 e).1)⟩, hq.2⟩)
                have hsc := cells_held_new u1 y l1
                have hbl : Below u1.heap.size u1 (u1.alloc (.cells (hcs y l1).toArray 40)) := (Below.refl _ _).alloc (Nat.le_refl _) _
                have z2 : (u1.alloc (.cells (hcs y l1).toArray 40)).heap.size = u1.heap.size + 1 := by simp
                have HHB1 : Hid (Blk (u1.alloc (.cells (hcs y l1).toArray 40)) u1.heap.size 40 (hcs y l1).toArray) := Blk.new _ _ _
                obtain ⟨u2, hA2⟩ : ∃ u2, u1.alloc (.cells (hcs y l1).toArray 40) = u2 := ⟨_, rfl⟩
                rw [hA2] at hsc hbl HHB1 z2
                have HBL := hide hbl
                have HCR2 := hide (HCR1.out.lift hbl)
                have k2 := HK1.out u2 HCR2.out.f
                clear hc1 hm1 hf1 hbl HGC k1 HCR1 HCR0 hh1 ht1
                go_wp2_with fail
                refine (HGR.out u2 HCR2.out.r).mono ?_
                rintro e u3 ⟨⟨l2, rfl, hh2⟩, M2, hr2, hm2, hf2⟩
                have HCR3 := hide (HCR2.out.stepR hr2 hm2 hf2)
                have z3 := hf2.size
                have HF2 := hide hf2
                have HM2 := hide hm2
                have HH2 := hide hh2
                clear hsc hA2
                have hsc := cells_held_new u3 y l2
                have hbl : Below u3.heap.size u3 (u3.alloc (.cells (hcs y l2).toArray 40)) := (Below.refl _ _).alloc (Nat.le_refl _) _
                have HHB2 : Hid (Blk (u3.alloc (.cells (hcs y l2).toArray 40)) u3.heap.size 40 (hcs y l2).toArray) := Blk.new _ _ _
                obtain ⟨u4, hA4⟩ : ∃ u4, u3.alloc (.cells (hcs y l2).toArray 40) = u4 := ⟨_, rfl⟩
                rw [hA4] at hsc hbl HHB2
                have HBL4 := hide hbl
                have HCR4 := hide (HCR3.out.lift hbl)
                have hq14 : ¬ Mr u1.heap.size := fun e => by have := HML.out _ e; omega
                have HQ14 : Hid (Blk u4 u1.heap.size 40 (hcs y l1).toArray) := (HF2.out.blk HHB1.out hq14).below hbl (by omega)
                have hmr : ∀ q, v0.heap.size ≤ q → ¬ Mr q := fun q hq e => by have := HML.out _ e; omega
                have HH14 : Hid (HeldD u4 (fun q => v0.heap.size ≤ q ∧ q < u1.heap.size) y l1) := (((HH1.out.weak (D' := fun q => v0.heap.size ≤ q ∧ q < u1.heap.size) fun q hq => ⟨hq.1, hq.2.1⟩).keep (Same.of_below HBL.out fun q hq => hq.2)).fr HF2.out (fun q hq => hmr q hq.1)).keep (Same.of_below HBL4.out fun q hq => by omega)
                have HT4 : Hid (ReadsT u4 (fun q => v0.heap.size ≤ q ∧ ¬ M1 q ∧ q < u1.heap.size) 1 l1.ay y.bytes.length (byts y.bytes)) := ((HT1.out.fr (Fr.of_below HBL.out (fun _ => False)) (fun _ _ => id)).fr HF2.out (fun q hq => hmr q hq.1)).fr (Fr.of_below HBL4.out (fun _ => False)) (fun _ _ => id)
                have HL1 := hide (load_held_blk u4 u1.heap.size _ y l1 HQ14.out)
                have HL2 := hide (load_held_blk u4 u3.heap.size _ y l2 HHB2.out)
                have z4 := HBL4.out.size
                have HSA := hide (same_held y l1 l2 u4.heap.size (fun q => v0.heap.size ≤ q ∧ q < u1.heap.size) (fun q => q < w.heap.size) u4 (Nat.le_refl _) HYO.out HH14.out (HH2.out.keep (Same.of_below HBL4.out fun q hq => by omega)) (fun q hq => by omega) (fun q hq => by omega))
                clear hr2 hm2 hf2 hbl k2 HCR2 HCR3 HGR hh2 HH14 hmr hq14 HHB1 HH1 HT1 HH2
                go_wp2_with (first | with_reducible refine wpList_load_runW (by with_unfolding_all rfl) 40 (.tmp 14) rfl HL1.out rfl ?_ | with_reducible refine wpList_load_runW (by with_unfolding_all rfl) 40 (.tmp 16) rfl HL2.out rfl ?_)
                refine (unhide HSA).mono ?_
                rintro e u5 ⟨rfl, hb5⟩
                have HCR5 := hide (HCR4.out.lift hb5)
                have HQ5' := hide (HQ14.out.below hb5 HQ14.out.lt)
                have HT5 := hide (HT4.out.fr (Fr.of_below hb5 (fun _ => False)) (fun _ _ => id))
                clear hb5 hsc hA4 HSA HL1 HL2 HCR4 HQ14 HT4
                have HFI : Hid (ActsRel w.heap.size w gc gr b (j + 1) u5) := HCR5.out.acts HBW5.out HMB.out HRB.out hbs5 HND2.out HLN2.out HBU2.out HSM2.out
                obtain ⟨nb, hnb⟩ : ∃ nb, y.bytes.length = nb := ⟨_, rfl⟩
                have c16 : u5.cell? ⟨u1.heap.size, 16, none⟩ = some (.slice l1.ay y.bytes.length l1.cy) := HQ5'.out.cell 16
                rw [hnb] at c16
                by_cases hb0 : 0 < nb
                · obtain ⟨ad5, had, ⟨⟨hd1, hd2, hd3⟩, hth⟩, hcell⟩ := HT5.out.2 (by omega)
                  rw [had] at c16
                  obtain ⟨vb, hvb⟩ : ∃ vb : Int, (byts y.bytes)[0]? = some (.int .u8 vb) := by
                    have h0 : 0 < y.bytes.length := by omega
                    exact ⟨((y.bytes[0]'h0).toNat : Int), by simp [byts, List.getElem?_eq_getElem h0]⟩
                  have cb0 := hcell 0 _ hvb
                  rw [Addr.add_zero'] at cb0
                  have cf0 := thawed_frozen hth
                  obtain ⟨cb, hcb⟩ : ∃ cb, l1.cy = cb := ⟨_, rfl⟩
                  rw [hcb] at c16
                  have HFIN : Hid (∀ X, Below u5.heap.size u5 X → ∀ u, ActsRel w.heap.size w gc gr b (j + 1) (X.setCell ad5 u)) := fun X hX u => by
                    have hcr := HCR5.out.lift hX
                    obtain ⟨_, _, hlt5⟩ := hth
                    have hlt := (Array.getElem?_eq_some_iff.1 hlt5).1
                    refine bump_rel hcr.c hcr.r hcr.d (fun q hq => ?_) (HBW5.out.trans (hcr.f.below hbs5 (fun q e => e.elim (HMB.out q) (HRB.out q)))) ad5 hd2 (fun e => ?_) (by omega) (by have := hcr.f.size; omega) HND2.out HLN2.out HBU2.out HSM2.out u
                    · rcases hcr.mc q hq with k | k
                      · exact HMB.out q k
                      · omega
                    · rcases HM2.out _ e with k | k
                      · have := HML.out _ k; omega
                      · omega
                  have nb1 : (0 : Int) < (nb : Int) := by omega
                  clear hth hcell hnb hcb had hvb hd1 hd2 hd3 HCR5 HQ5' HT5
                  generalize u1.heap.size = q14 at *
                  go_wp2_with fail
                  refine region_tail 8 (by kernel_rfl) (by kernel_rfl) ?_
                  intro Y hY
                  have HYB : Hid (Below u5.heap.size u5 Y) := by rw [hY]; exact (Below.refl _ _).drew
                  have y16 : Y.cell? ⟨q14, 16, none⟩ = some (.slice (some ad5) nb cb) := by rw [hY]; exact c16
                  have yb : Y.cell? ad5 = some (.int .u8 vb) := by rw [hY]; exact cb0
                  have yf : Y.frozen? ad5 = false := by rw [hY]; exact cf0
                  have HFY := hide (HFIN.out Y (by rw [hY]; exact (Below.refl _ _).drew))
                  clear hY c16 cb0 cf0
                  simp only [List.take_succ_cons, List.take_zero, List.drop_succ_cons, List.drop_zero]
                  still_step
                  still_step
                  still_step
                  still_step
                  still_step
                  still_step
                  still_step
                  still_step
                  refine wpStill_nil ?_
                  go_wp2
                  go_meet
                  exact HFY.out _
                · have h0 : nb = 0 := by omega
                  rw [h0] at c16
                  clear hnb h0 hb0 HCR5 HQ5' HT5
                  go_wp2
                  go_meet
                  exact HFI.out
            · have b1 : (x.kind == (1 : Int)) = false := beq_eq_false_iff_ne.2 e1
              by_cases e2 : x.kind = 2
              · as_aux_lemma =>
                  have b2 : (x.kind == (2 : Int)) = true := beq_iff_eq.2 e2
                  clear e0 e1 e2
                  have HPC := hide (peek_on (B := w.heap.size) (W0 := w) ⟨Mc, HC.out, HMB.out, HBW5.out⟩ (Nat.le_refl _) x.h.key)
                  have hyo := okD (o := peekS S x.h.key) (fun y hy => peek_ok HR.out.sok hy)
                  have hbb : ((peekS S x.h.key).isSome != (peekS S x.h.key).isSome) = false := by simp
                  have HPR : Hid (∀ X, Below v0.heap.size v0 X → Calls Try.prog 25 #[.pointer (some ⟨gr, 0, none⟩), .string x.h.key] X fun e W' => RGiven w.heap.size (peekS S x.h.key) e W' ∧ Below X.heap.size X W') := fun X hX => rpeek_any (HR.out.lift hX) x.h.key
                  unfold Given at HPC
                  unfold RGiven at HPR
                  have k1 := HQ5.out.key
                  have HK1 : Hid (∀ X, Below v0.heap.size v0 X → X.cell? ⟨q12, 1, none⟩ = some (.string x.h.key)) := fun X hX => ABlk.key (Blk.below HQ5.out hX HQ5.out.lt)
                  generalize (peekS S x.h.key).getD zh = y at *
                  generalize (peekS S x.h.key).isSome = bo at *
                  have HYO := hide hyo
                  have hz := fun W' => zero_held W'
                  clear hyo
                  go_wp2_with fail
                  refine (unhide HPC).mono ?_
                  rintro e u1 ⟨⟨l1, rfl, hh1⟩, -, hb1⟩
                  have hsc := cells_held_new u1 y l1
                  have HHB1 : Hid (Blk (u1.alloc (.cells (hcs y l1).toArray 40)) u1.heap.size 40 (hcs y l1).toArray) := Blk.new _ _ _
                  have HU1 := hide hb1
                  have HH1 := hide hh1
                  have HU2 : Hid (Below v0.heap.size v0 (u1.alloc (.cells (hcs y l1).toArray 40)) ∧ Below u1.heap.size u1 (u1.alloc (.cells (hcs y l1).toArray 40)) ∧ (u1.alloc (.cells (hcs y l1).toArray 40)).heap.size = u1.heap.size + 1) := ⟨hb1.alloc hb1.size _, (Below.refl _ _).alloc (Nat.le_refl _) _, by simp⟩
                  obtain ⟨u2, hA2⟩ : ∃ u2, u1.alloc (.cells (hcs y l1).toArray 40) = u2 := ⟨_, rfl⟩
                  rw [hA2] at hsc HHB1 HU2
                  have k2 := HK1.out u2 HU2.out.1
                  clear hh1 hb1 HPC k1
                  go_wp2_with fail
                  refine (HPR.out u2 HU2.out.1).mono ?_
                  rintro e u3 ⟨⟨l2, rfl, hh2⟩, hb3⟩
                  clear hsc hA2
                  have hsc := cells_held_new u3 y l2
                  have HHB2 : Hid (Blk (u3.alloc (.cells (hcs y l2).toArray 40)) u3.heap.size 40 (hcs y l2).toArray) := Blk.new _ _ _
                  have HU4 : Hid (Below u2.heap.size u2 (u3.alloc (.cells (hcs y l2).toArray 40)) ∧ Below u3.heap.size u3 (u3.alloc (.cells (hcs y l2).toArray 40)) ∧ (u3.alloc (.cells (hcs y l2).toArray 40)).heap.size = u3.heap.size + 1) := ⟨hb3.alloc hb3.size _, (Below.refl _ _).alloc (Nat.le_refl _) _, by simp⟩
                  have HU3 := hide hb3
                  have HH2 := hide hh2
                  obtain ⟨u4, hA4⟩ : ∃ u4, u3.alloc (.cells (hcs y l2).toArray 40) = u4 := ⟨_, rfl⟩
                  rw [hA4] at hsc HHB2 HU4
                  have z1 := HU1.out.size
                  have z2 := HU2.out.2.2
                  have z3 := HU3.out.size
                  have z4 := HU4.out.2.2
                  have HL1 := hide (load_held_blk u4 u1.heap.size _ y l1 ((HHB1.out.below HU4.out.1 HHB1.out.lt)))
                  have HL2 := hide (load_held_blk u4 u3.heap.size _ y l2 HHB2.out)
                  have HSA := hide (same_held y l1 l2 u4.heap.size (fun q => q < u1.heap.size) (fun q => q < w.heap.size) u4 (Nat.le_refl _) HYO.out (((HH1.out.weak (D' := fun q => q < u1.heap.size) fun q hq => hq.2).keep (Same.of_below HU2.out.2.1 fun q hq => hq)).keep (Same.of_below HU4.out.1 fun q hq => by omega)) (HH2.out.keep (Same.of_below HU4.out.2.1 fun q hq => by omega)) (fun q hq => by omega) (fun q hq => by omega))
                  have HFB := hide (HU2.out.1.trans (HU4.out.1.mono HU2.out.1.size))
                  clear hh2 hb3 k2
                  go_wp2_with (first | with_reducible refine wpList_load_runW (by with_unfolding_all rfl) 40 (.tmp 18) rfl HL1.out rfl ?_ | with_reducible refine wpList_load_runW (by with_unfolding_all rfl) 40 (.tmp 20) rfl HL2.out rfl ?_)
                  refine (unhide HSA).mono ?_
                  rintro e u5 ⟨rfl, hb5⟩
                  have HFI := hide (HREL.out u5 (HFB.out.trans (hb5.mono HFB.out.size)))
                  clear hb5 hsc hA4
                  go_wp2
                  go_meet
                  exact HFI.out
              · have b2 : (x.kind == (2 : Int)) = false := beq_eq_false_iff_ne.2 e2
                by_cases e3 : x.kind = 3
                · as_aux_lemma =>
                    have b3 : (x.kind == (3 : Int)) = true := beq_iff_eq.2 e3
                    clear e0 e1 e2 e3
                    have hdk := drop_keeps x.ks S HND.out
                    obtain ⟨S1, hS1⟩ : ∃ S1, (dropS S x.ks).1 = S1 := ⟨_, rfl⟩
                    obtain ⟨dn, hdn⟩ : ∃ dn, (dropS S x.ks).2 = dn := ⟨_, rfl⟩
                    rw [hS1] at hdk
                    have HKX : Hid (∀ X, Fr (fun q => Mc q ∨ Mr q) v0 X → ReadsD X (fun q => q < w.heap.size) 1 x.ka x.ks.length (strs x.ks)) := fun X hX => (ReadsD.of_reads HX5.out.2).fr hX (fun q hq e => by
                      rcases e with e | e
                      · have := HMB.out q e; omega
                      · have := HRB.out q e; omega)
                    have hkl : x.ks.length ≤ 100000 := by have := HOK.out.2.2.2.2.2.2; omega
                    have HDC : Hid (∀ X, CacheAt X Mc gc S → Fr (fun q => Mc q ∨ Mr q) v0 X → Calls Try.prog 17 #[.pointer (some ⟨gc, 0, none⟩), .slice x.ka x.ks.length x.kc] X fun e W' => e = .returned (.int .i64 (dn : Int)) ∧ ∃ M', CacheAt W' M' gc S1 ∧ (∀ q, M' q → Mc q ∨ X.heap.size ≤ q) ∧ Fr Mc X W') := fun X hX hf => by
                      refine (drop_any x.ks x.ka x.ks.length x.kc (fun q => q < w.heap.size) hX rfl hkl (HKX.out X hf) (fun q hq e => by have := HMB.out q e; omega)).mono ?_
                      rintro e W' ⟨h1, h2⟩
                      rw [hS1] at h2
                      rw [hdn] at h1
                      exact ⟨h1, h2⟩
                    have HDR : Hid (∀ X, RefAt X Mr w.heap.size gr S → Fr (fun q => Mc q ∨ Mr q) v0 X → Calls Try.prog 26 #[.pointer (some ⟨gr, 0, none⟩), .slice x.ka x.ks.length x.kc] X fun e W' => e = .returned (.int .i64 (dn : Int)) ∧ ∃ M', RefAt W' M' w.heap.size gr S1 ∧ (∀ q, M' q → Mr q ∨ X.heap.size ≤ q) ∧ Fr Mr X W') := fun X hX hf => by
                      refine (rdrop_any hX x.ks x.ka x.ks.length x.kc (D := fun q => q < w.heap.size) rfl hkl (HKX.out X hf) (fun q hq e => by have := HRB.out q e; omega)).mono ?_
                      rintro e W' ⟨h1, h2⟩
                      rw [hS1] at h2
                      rw [hdn] at h1
                      exact ⟨h1, h2⟩
                    have HDK := hide hdk
                    have HPH := hide (PhC.start (ic := 3) (ir := 7) (S' := S1) HC.out HR.out HD.out)
                    clear hS1 hdn hdk hkl HREL
                    go_wp2_with fail
                    refine wp_region_phase (Fr (fun q => Mc q ∨ Mr q)) (PhC 3 7 v0 w.heap.size gc gr Mc Mr S S1) (listV [isV (.pointer (some ⟨gc, 0, none⟩)), isV (.pointer (some ⟨q12, 18, none⟩)), isV (.slice x.ka x.ks.length x.kc), isV (.int .i64 (dn : Int)), isV (.pointer (some ⟨gr, 0, none⟩)), isV (.pointer (some ⟨q12, 18, none⟩)), isV (.slice x.ka x.ks.length x.kc), isV (.int .i64 (dn : Int)), isV (.bool false)]) (by kernel_rfl) (by kernel_rfl) (pre_fr _) (listV_stableP ?_) HPH.out ?_ ?_
                    · exact ⟨isV_stableP _ _, isV_stableP _ _, isV_stableP _ _, isV_stableP _ _, isV_stableP _ _, isV_stableP _ _, isV_stableP _ _, isV_stableP _ _, isV_stableP _ _, trivial⟩
                    refine ⟨fun vs2 wk2 L hbk2 hi hL hcl hd => ?_, fun vs2 wk2 L hbk2 hi hL hcl hd => ?_, fun vs2 wk2 L hbk2 hi hL hcl hd => ?_, fun vs2 wk2 L hbk2 hi hL hcl hd => ?_, fun vs2 wk2 L hbk2 hi hL hcl hd => ?_, fun vs2 wk2 L hbk2 hi hL hcl hd => ?_, fun vs2 wk2 L hbk2 hi hL hcl hd => ?_, fun vs2 wk2 L hbk2 hi hL hcl hd => ?_, fun vs2 wk2 L hbk2 hi hL hcl hd => ?_, trivial⟩
                    -- 0: Op.move t7
                    · clear hd
                      go_wp2
                      exact ⟨rfl, rfl, rfl, Fr.refl _ _, hi.stay (by decide) (by decide) (Below.refl _ _)⟩
                    -- 1: Op.fieldAddr 49 t12 2
                    · simp only [Act.put, List.setIfInBounds_toArray, List.set_cons_zero, List.set_cons_succ]
                      clear hd
                      go_wp2
                      exact ⟨rfl, rfl, rfl, Fr.refl _ _, hi.stay (by decide) (by decide) (Below.refl _ _)⟩
                    -- 2: Op.load 28 t215
                    · simp only [Act.put, List.setIfInBounds_toArray, List.set_cons_zero, List.set_cons_succ, Nat.reduceAdd]
                      have e1 : vs2 1 = .pointer (some ⟨q12, 18, none⟩) := (hd 1 (by kernel_rfl)).2
                      clear hd
                      have hq := ABlk.keys (HQX.out wk2 (undrewF hbk2))
                      go_wp2
                      first | exact ⟨rfl, rfl, rfl, Fr.refl _ _, hi.stay (by decide) (by decide) (Below.refl _ _)⟩ | exact ⟨rfl, rfl, e1, Fr.refl _ _, hi.stay (by decide) (by decide) (Below.refl _ _)⟩
                    -- 3: Op.call { value (Operand.func 17), args := #[t214, t216], argTypes := 
                    · simp only [Act.put, List.setIfInBounds_toArray, List.set_cons_zero, List.set_cons_succ, Nat.reduceAdd]
                      have e0 : vs2 0 = .pointer (some ⟨gc, 0, none⟩) := (hd 0 (by kernel_rfl)).2
                      have e2 : vs2 2 = .slice x.ka x.ks.length x.kc := (hd 2 (by kernel_rfl)).2
                      clear hd
                      have hfk := undrewF hbk2
                      have hcs := hi.cache hL
                      go_wp2_with fail
                      refine (HDC.out wk2 hcs hfk).mono ?_
                      rintro e w' ⟨rfl, M', hm1, hm2, hm3⟩
                      have hi' := hi.stepC (by decide) HMB.out hL hm1 hm2 hm3
                      have hk2 := hm3.weak (O' := fun q => Mc q ∨ Mr q) (fun q _ e => .inl e)
                      clear hi hcs hm1 hm2 hm3
                      go_wp2
                      exact ⟨rfl, rfl, rfl, hk2, hi'⟩
                    -- 4: Op.move t9
                    · simp only [Act.put, List.setIfInBounds_toArray, List.set_cons_zero, List.set_cons_succ, Nat.reduceAdd]
                      clear hd
                      go_wp2
                      exact ⟨rfl, rfl, rfl, Fr.refl _ _, hi.stay (by decide) (by decide) (Below.refl _ _)⟩
                    -- 5: Op.fieldAddr 49 t12 2
                    · simp only [Act.put, List.setIfInBounds_toArray, List.set_cons_zero, List.set_cons_succ, Nat.reduceAdd]
                      clear hd
                      go_wp2
                      exact ⟨rfl, rfl, rfl, Fr.refl _ _, hi.stay (by decide) (by decide) (Below.refl _ _)⟩
                    -- 6: Op.load 28 t219
                    · simp only [Act.put, List.setIfInBounds_toArray, List.set_cons_zero, List.set_cons_succ, Nat.reduceAdd]
                      have e5 : vs2 5 = .pointer (some ⟨q12, 18, none⟩) := (hd 5 (by kernel_rfl)).2
                      clear hd
                      have hq := ABlk.keys (HQX.out wk2 (undrewF hbk2))
                      go_wp2
                      first | exact ⟨rfl, rfl, rfl, Fr.refl _ _, hi.stay (by decide) (by decide) (Below.refl _ _)⟩ | exact ⟨rfl, rfl, e5, Fr.refl _ _, hi.stay (by decide) (by decide) (Below.refl _ _)⟩
                    -- 7: Op.call { value (Operand.func 26), args := #[t218, t220], argTypes := 
                    · simp only [Act.put, List.setIfInBounds_toArray, List.set_cons_zero, List.set_cons_succ, Nat.reduceAdd]
                      have e4 : vs2 4 = .pointer (some ⟨gr, 0, none⟩) := (hd 4 (by kernel_rfl)).2
                      have e6 : vs2 6 = .slice x.ka x.ks.length x.kc := (hd 6 (by kernel_rfl)).2
                      clear hd
                      have hfk := undrewF hbk2
                      have hcs := hi.ref hL
                      go_wp2_with fail
                      refine (HDR.out wk2 hcs hfk).mono ?_
                      rintro e w' ⟨rfl, M', hm1, hm2, hm3⟩
                      have hi' := hi.stepR (by decide) hL hm1 hm2 hm3
                      have hk2 := hm3.weak (O' := fun q => Mc q ∨ Mr q) (fun q _ e => .inr e)
                      clear hi hcs hm1 hm2 hm3
                      go_wp2
                      exact ⟨rfl, rfl, rfl, hk2, hi'⟩
                    -- 8: Op.binOp BinOp.neq 3 t217 t221 3
                    · simp only [Act.put, List.setIfInBounds_toArray, List.set_cons_zero, List.set_cons_succ, Nat.reduceAdd]
                      have e3 : vs2 3 = .int .i64 (dn : Int) := (hd 3 (by kernel_rfl)).2
                      have e7 : vs2 7 = .int .i64 (dn : Int) := (hd 7 (by kernel_rfl)).2
                      have htb : ((dn : Int) != (dn : Int)) = false := by simp
                      clear hd
                      go_wp2
                      first | exact ⟨rfl, rfl, rfl, Fr.refl _ _, hi.stay (by decide) (by decide) (Below.refl _ _)⟩ | exact ⟨rfl, rfl, e7, Fr.refl _ _, hi.stay (by decide) (by decide) (Below.refl _ _)⟩ | exact ⟨rfl, rfl, e3, Fr.refl _ _, hi.stay (by decide) (by decide) (Below.refl _ _)⟩
                    intro vs2 wk2 L hbk2 hL hi hd
                    simp only [putAll, Act.put, List.setIfInBounds_toArray, List.set_cons_zero, List.set_cons_succ, Nat.reduceAdd]
                    have e8 : vs2 8 = .bool false := hd 8 (by decide)
                    clear hd
                    simp only [e8]
                    clear e8
                    obtain ⟨Mc1, Mr1, d1, d2, d3, d4, d5⟩ := hi.done (hL 3 (by decide)) (hL 7 (by decide))
                    have HFI : Hid (ActsRel w.heap.size w gc gr b (j + 1) wk2) := by
                      have hbe : Below w.heap.size v0 wk2 := (undrewF hbk2).below hbs5 (fun q e => by
                        rcases e with e | e
                        · exact HMB.out q e
                        · exact HRB.out q e)
                      refine ⟨S1, ⟨Mc1, Mr1, d1, d2, d5, fun q hq => ?_, HBW5.out.trans hbe⟩, HDK.out.1, ?_, ?_, ?_⟩
                      · rcases d3 q hq with e | e
                        · exact HMB.out q e
                        · omega
                      · have := HDK.out.2.2.1; have := HLN.out; omega
                      · rw [HDK.out.2.1]; exact HBU.out
                      · have h1 := HDK.out.2.2.2
                        have h2 := HSM.out
                        unfold CS.sum at h1
                        omega
                    clear hi hL hbk2 d1 d2 d3 d4 d5
                    go_wp2
                    go_meet
                    exact HFI.out
                · as_aux_lemma =>
                    have b3 : (x.kind == (3 : Int)) = false := beq_eq_false_iff_ne.2 e3
                    clear e0 e1 e2 e3
                    have HKX : Hid (∀ X, Fr (fun q => Mc q ∨ Mr q) v0 X → ReadsD X (fun q => q < w.heap.size) 1 x.ka x.ks.length (strs x.ks)) := fun X hX => (ReadsD.of_reads HX5.out.2).fr hX (fun q hq e => by
                      rcases e with e | e
                      · have := HMB.out q e; omega
                      · have := HRB.out q e; omega)
                    have hk10 : x.ks.length ≤ 10 := HOK.out.2.2.2.2.2.2
                    have HG0 : Hid (GetsRel v0 w.heap.size gc gr Mc Mr b j v0) := ⟨Mc, Mr, S, CR2.start HC.out HR.out HD.out, HND.out, HLN.out, HBU.out, HSM.out⟩
                    clear HREL
                    go_wp2_with fail
                    go_loopw [22] (fun s22 X => Hid (∃ i : Nat, i ≤ x.ks.length ∧ s22 = .int .i64 (i : Int) ∧ GetsRel v0 w.heap.size gc gr Mc Mr b j X)) (fun s22 _ => x.ks.length - (intOf s22).toNat)
                    case atStart => exact hide ⟨0, Nat.zero_le _, rfl, HG0.out⟩
                    case round =>
                      clear HG0
                      obtain ⟨i, hi, rfl, Mc1, Mr1, S1, hcr, hnd1, hln1, hbu1, hsm1⟩ := hrel.out
                      clear hrel
                      have HCR := hide hcr
                      have HND1 := hide hnd1
                      have HLN1 := hide hln1
                      have HBU1 := hide hbu1
                      have HSM1 := hide hsm1
                      have c18 := ABlk.keys (HQX.out wr hcr.f)
                      by_cases hli : i < x.ks.length
                      · have hl6 : S1.trial.length + S1.rest.length < 1000 := by unfold CS.len at hln1; omega
                        obtain ⟨ad2, had, hlo, hxx⟩ := (HKX.out wr hcr.f).2 (by omega)
                        have HKC : Hid (∀ X, Fr (fun q => Mc q ∨ Mr q) v0 X → X.cell? (ad2.add i) = some (.string x.ks[i])) := fun X hX => by
                          obtain ⟨ad3, had3, _, hc⟩ := (HKX.out X hX).2 (by omega)
                          rw [had] at had3
                          cases had3
                          exact hc i (.string x.ks[i]) (by simp [strs, hli])
                        have HKK : Hid (∀ X, Fr (fun q => Mc q ∨ Mr q) v0 X → X.cell? ⟨q12, 18, none⟩ = some (.slice (some ad2) x.ks.length x.kc)) := fun X hX => by
                          have := ABlk.keys (HQX.out X hX)
                          rw [had] at this
                          exact this
                        rw [had] at c18
                        have kc := HKC.out wr hcr.f
                        clear hcr hnd1 hln1 hbu1 hsm1 hxx hlo had
                        generalize x.ks[i] = key at *
                        have HGC := hide (get_anyX key HCR.out.c hl6)
                        have HGR : Hid (∀ X, RefAt X Mr1 w.heap.size gr S1 → Calls Try.prog 23 #[.pointer (some ⟨gr, 0, none⟩), .string key] X fun e W' => RGiven w.heap.size (getS S1 key).2 e W' ∧ RefTo X Mr1 w.heap.size gr (getS S1 key).1 W') := fun X hX => rget_any hX HND1.out key hl6
                        have hnd2 := nd_get HND1.out key
                        have hln2 := len_get S1 key
                        have hsm2 := get_sum S1 key
                        have hbb : ((getS S1 key).2.isSome != (getS S1 key).2.isSome) = false := by simp
                        unfold GetPostX at HGC
                        unfold RGiven RefTo at HGR
                        generalize (getS S1 key).2.getD zh = y at *
                        generalize (getS S1 key).2.isSome = bo at *
                        generalize (getS S1 key).1 = S2 at *
                        have HND2 := hide hnd2
                        have HLN2 := hide hln2
                        have HSM2 := hide hsm2
                        have hz := fun W' => zero_held W'
                        have j1 : (0 : Int) ≤ (i : Int) := by omega
                        have j2 : (i : Int) < (x.ks.length : Int) := by omega
                        clear hnd2 hln2 hsm2 hl6
                        go_wp2_with fail
                        refine (unhide HGC).mono ?_
                        rintro e u1 ⟨M1, hc1, hm1, hf1, l1, rfl, -, -⟩
                        have HCR1 := hide (HCR.out.stepC HMB.out hbs5 hc1 hm1 hf1)
                        have hsc := cells_held_new u1 y l1
                        have hbl : Below u1.heap.size u1 (u1.alloc (.cells (hcs y l1).toArray 40)) := (Below.refl _ _).alloc (Nat.le_refl _) _
                        obtain ⟨u2, hA2⟩ : ∃ u2, u1.alloc (.cells (hcs y l1).toArray 40) = u2 := ⟨_, rfl⟩
                        rw [hA2] at hsc hbl
                        have HCR2 := hide (HCR1.out.lift hbl)
                        have c18' := HKK.out u2 HCR2.out.f
                        have kc' := HKC.out u2 HCR2.out.f
                        clear hc1 hm1 hf1 hbl HGC c18 kc HCR HCR1
                        go_wp2_with fail
                        refine (HGR.out u2 HCR2.out.r).mono ?_
                        rintro e u3 ⟨⟨l2, rfl, -⟩, M2, hr2, hm2, hf2⟩
                        have HCR3 := hide (HCR2.out.stepR hr2 hm2 hf2)
                        clear hsc hA2
                        have hsc := cells_held_new u3 y l2
                        have hbl : Below u3.heap.size u3 (u3.alloc (.cells (hcs y l2).toArray 40)) := (Below.refl _ _).alloc (Nat.le_refl _) _
                        obtain ⟨u4, hA4⟩ : ∃ u4, u3.alloc (.cells (hcs y l2).toArray 40) = u4 := ⟨_, rfl⟩
                        rw [hA4] at hsc hbl
                        have HG4 : Hid (GetsRel v0 w.heap.size gc gr Mc Mr b j u4) := ⟨M1, M2, S2, HCR3.out.lift hbl, HND2.out, by rw [HLN2.out]; exact HLN1.out, by rw [HSM2.out.2]; exact HBU1.out, by rw [HSM2.out.1]; exact HSM1.out⟩
                        clear hr2 hm2 hf2 hbl c18' kc' HCR2 HCR3 HGR
                        go_wp2
                        go_roundw
                        case rel => exact hide ⟨i + 1, by omega, by go_num, HG4.out⟩
                        case measure => simp [intOf]; omega
                      · have HFI : Hid (ActsRel w.heap.size w gc gr b (j + 1) wr) := HCR.out.acts HBW5.out HMB.out HRB.out hbs5 HND1.out (Nat.le_succ_of_le HLN1.out) HBU1.out HSM1.out
                        clear hcr hnd1 hln1 hbu1 hsm1 HCR
                        go_wp2
                        go_meet
                        exact HFI.out
        case rest =>
          as_aux_lemma =>
            clear H2 HW05 HQ5 HX5 H5 HBU HSM HLN HND HN12 HQ12 HB5 hbs5 k0 hbs HOK HWB HB4 HQB0 HW3 HBW
            obtain ⟨S5, ⟨Mc, Mr, hc, ⟨vt, vr, Xt, Xr, hri⟩, hd, hB, hbw⟩, hnd, hlen, hbu, hsum⟩ := hcut
            have HC := hide hc
            have HR := hide hri
            have HREL : Hid (∀ X, Below wc.heap.size wc X → ActsRel w.heap.size w gc gr b (j + 1) X) := fun X hX => ⟨S5, TwoCR.lift ⟨Mc, Mr, hc, ⟨vt, vr, Xt, Xr, hri⟩, hd, hB, hbw⟩ hX (Nat.le_refl _), hnd, hlen, hbu, hsum⟩
            have HKY := hide (keys_on (B := w.heap.size) (W0 := w) ⟨Mc, hc, hB, hbw⟩)
            have HCO : Hid (∀ X, Below wc.heap.size wc X → CacheOn w.heap.size w gc S5 X) := fun X hX => CacheOn.lift ⟨Mc, hc, hB, hbw⟩ hX (Nat.le_refl _)
            have hl1 : (keysOf S5.trial).length ≤ 1000 ∧ (keysOf S5.rest).length ≤ 1000 := by
              have := hri.ok.2.2.1
              simp only [keysOf, List.length_map]
              omega
            have HL1 := hide hl1
            obtain ⟨us, hus⟩ : ∃ us, sumC S5.trial + sumC S5.rest = us := ⟨_, rfl⟩
            have HUE := hide hus
            rw [hus] at hsum
            have tn : (((us : Nat) : Int) != ((us : Nat) : Int)) = false := by simp
            have tg : decide ((b : Int) < (us : Int)) = false := decide_eq_false (by omega)
            have tg2 : ¬ ((b : Int) < (us : Int)) := by omega
            have tg3 : ¬ (b < us) := by omega
            have tg4 : decide (b < us) = false := decide_eq_false (by omega)
            clear hc hri hd hB hbw hnd hlen hbu hsum hl1 hus
            go_wp2_with fail
            refine (unhide HKY).mono ?_
            rintro e w5 ⟨A1, c1, A2, c2, rfl, r1, r2, hb5⟩
            have HB5 := hide hb5
            have HR1 := hide (r1.reads (B := w5.heap.size) fun q hq => hq.2)
            have HR2 := hide (r2.reads (B := w5.heap.size) fun q hq => hq.2)
            have q2 : w5.cell? ⟨gr, 2, none⟩ = some vt := (HR.out.lift hb5).blk.cell 2
            have HKR := hide ((HR.out.lift hb5).keys2)
            clear r1 r2 hb5 HKY HC
            go_wp2_with fail
            refine (unhide HKR).mono ?_
            rintro e w6 ⟨A3, c3, rfl, r3, hb6⟩
            have HB6 := hide (HB5.out.trans (hb6.mono HB5.out.size))
            have HSA := hide (same_refl (keysOf S5.trial) A1 A3 c1 c3 w6.heap.size w6 (by have := HL1.out.1; omega) ((HR1.out.below hb6).wide hb6.size) (r3.reads fun q hq => hq.2))
            have HR2' := hide ((HR2.out.below hb6).wide hb6.size)
            clear r3 hb6 HKR q2 HR1 HR2
            go_wp2_with fail
            refine (unhide HSA).mono ?_
            rintro e w7 ⟨rfl, hb7⟩
            have HB7 := hide (HB6.out.trans (hb7.mono HB6.out.size))
            have q3 : w7.cell? ⟨gr, 3, none⟩ = some vr := (HR.out.lift HB7.out).blk.cell 3
            have HKR := hide ((HR.out.lift HB7.out).keys3)
            have HR2'' := hide ((HR2'.out.below hb7).wide hb7.size)
            clear hb7 HSA HR2'
            go_wp2_with fail
            refine (unhide HKR).mono ?_
            rintro e w8 ⟨A4, c4, rfl, r4, hb8⟩
            have HB8 := hide (HB7.out.trans (hb8.mono HB7.out.size))
            have HSA := hide (same_refl (keysOf S5.rest) A2 A4 c2 c4 w8.heap.size w8 (by have := HL1.out.2; omega) ((HR2''.out.below hb8).wide hb8.size) (r4.reads fun q hq => hq.2))
            clear r4 hb8 HKR q3 HR2''
            go_wp2_with fail
            refine (unhide HSA).mono ?_
            rintro e w9 ⟨rfl, hb9⟩
            have HB9 := hide (HB8.out.trans (hb9.mono HB8.out.size))
            clear hb9 HSA
            have HUS := hide (used_on (HCO.out w9 HB9.out))
            rw [HUE.out] at HUS
            go_wp2_with fail
            refine (unhide HUS).mono ?_
            rintro e w10 ⟨rfl, n10, rfl⟩
            have HB10 := hide (below_drewN HB9.out n10)
            have HUR := hide (rused_any ⟨vt, vr, Xt, Xr, HR.out.lift HB10.out⟩)
            rw [HUE.out] at HUR
            clear HUS
            go_wp2_with fail
            refine (unhide HUR).mono ?_
            rintro e w11 ⟨rfl, hb11⟩
            have HB11 := hide (HB10.out.trans (hb11.mono HB10.out.size))
            clear hb11 HUR
            have HUS := hide (used_on (HCO.out w11 HB11.out))
            rw [HUE.out] at HUS
            go_wp2_with fail
            refine (unhide HUS).mono ?_
            rintro e w12 ⟨rfl, n12, rfl⟩
            have HFI := hide (HREL.out _ (below_drewN HB11.out n12))
            go_wp2
            go_roundw
            case rel => exact ⟨j + 1, by omega, by go_num, HFI.out⟩
            case measure => simp [intOf]; omega
    · obtain rfl : j = L.length := by omega
      have HEND := hide H2.out.below
      go_wp2
      go_ret
      exact ⟨rfl, HEND.out⟩
end Go.Proofs.Ytjijdpdbkpknpaa
