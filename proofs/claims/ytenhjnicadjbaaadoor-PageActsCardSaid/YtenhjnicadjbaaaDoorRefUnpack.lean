/-
  The walk of icehouseref14.Unpack. Condition: the slice reads as a list of bytes.
-/
import Derived.Test.YtenhjnicadjbaaaDoorUnpackW
namespace Go.Proofs.YtenhjnicadjbaaaDoor
open Go Go.RowKit

theorem str_beq14 (a b : List UInt8) : ((strOf a).toList == (strOf b).toList) = decide (a = b) := by
  by_cases h : a = b
  · subst h
    simp
  · rw [decide_eq_false h, beq_eq_false_iff_ne]
    exact fun e => h (by simpa [ByteArray.toList_eq, strOf] using e)
def RefUnpackPost (b : List UInt8) (w : World) (e : Ending) (w' : World) : Prop :=
  ∃ A n c kk is, e = .returned (.tuple #[.int .i64 kk, .slice A n c, .bool is]) ∧ Below w.heap.size w w' ∧
    ((isPage b = true ∧ kk = (bodyK b : Int) ∧ is = true ∧ n = (bodyL b).length ∧ n ≤ c ∧ BytesAt w' w'.heap.size A (bodyL b)) ∨
     (isPage b = false ∧ kk = 0 ∧ is = false ∧ n = 0 ∧ c = 0 ∧ A = none))
def PackRes (l : List UInt8) (v : Value) (w : World) : Prop := ∃ A c, v = .tuple #[.slice A 512 c, .int .i64 0] ∧ l.length ≤ c ∧ BytesAt w w.heap.size A l
def PackRes0 (l : List UInt8) (v : Value) (w : World) : Prop := ∃ A c, v = .slice A 512 c ∧ l.length ≤ c ∧ BytesAt w w.heap.size A l
theorem PackRes0_stable (l : List UInt8) : StableV (PackRes0 l) := fun _ _ _ ⟨A, c, e, hc, hb⟩ hg => ⟨A, c, e, hc, (Reads.below hb hg).more hg.size⟩
theorem PackRes_stable (l : List UInt8) : StableV (PackRes l) := fun _ _ _ ⟨A, c, e, hc, hb⟩ hg => ⟨A, c, e, hc, (Reads.below hb hg).more hg.size⟩

set_option maxRecDepth 100000 in
set_option maxHeartbeats 1000000 in
theorem refUnpack_any (l : List UInt8) (A : Option Addr) (n c : Nat) (w : World) (hn : n = l.length) (hc : l.length ≤ c) (hA : BytesAt w w.heap.size A l) :
    Calls Tryd.prog 29 #[.slice A n c] w (RefUnpackPost l w) := by
  subst hn
  by_cases h512 : l.length = 512
  · have g0 : l[0]? = some (l.getD 0 0) := by rw [List.getD_eq_getElem?_getD, List.getElem?_eq_getElem (by omega)]; rfl
    have g1 : l[1]? = some (l.getD 1 0) := by rw [List.getD_eq_getElem?_getD, List.getElem?_eq_getElem (by omega)]; rfl
    have g2 : l[2]? = some (l.getD 2 0) := by rw [List.getD_eq_getElem?_getD, List.getElem?_eq_getElem (by omega)]; rfl
    have HLN : Hid (bodyN l = 256 * (l.getD 1 0).toNat + (l.getD 2 0).toNat) := rfl
    have HLK : Hid (bodyK l = (l.getD 0 0).toNat) := rfl
    have b0 : (l.getD 0 0).toNat < 256 := (l.getD 0 0).toNat_lt
    have b1 : (l.getD 1 0).toNat < 256 := (l.getD 1 0).toNat_lt
    have b2 : (l.getD 2 0).toNat < 256 := (l.getD 2 0).toNat_lt
    have hg0 : (byts l)[0]? = some (.int .u8 ((l.getD 0 0).toNat : Int)) := by rw [byts, List.getElem?_map, g0]; rfl
    have hg1 : (byts l)[1]? = some (.int .u8 ((l.getD 1 0).toNat : Int)) := by rw [byts, List.getElem?_map, g1]; rfl
    have hg2 : (byts l)[2]? = some (.int .u8 ((l.getD 2 0).toNat : Int)) := by rw [byts, List.getElem?_map, g2]; rfl
    obtain ⟨ad, rfl, had, hcell⟩ := hA.2 (by omega)
    have r0 := hcell 0 _ hg0
    have r1 : w.cell? ⟨ad.block, ad.off + 1, none⟩ = _ := hcell 1 _ hg1
    have r2 : w.cell? ⟨ad.block, ad.off + 2, none⟩ = _ := hcell 2 _ hg2
    rw [add_zero_addr] at r0
    have HIP : Hid (isPage l = (decide (bodyN l ≤ 505) && (decide (1 ≤ bodyK l) && decide (pageL (bodyK l) (bodyL l) = l)))) := by
      show isPage l = _
      unfold isPage
      rw [decide_eq_true h512, Bool.true_and]
    have HA := hide hA
    have H512 := hide h512
    have HBL : Hid (bodyL l = (l.drop 3).take (bodyN l)) := rfl
    unfold RefUnpackPost
    generalize isPage l = ip at *
    rw [h512] at hc ⊢
    clear g0 g1 g2 hg0 hg1 hg2 hcell h512 hA
    generalize (l.getD 0 0).toNat = x0 at *
    generalize (l.getD 1 0).toNat = x1 at *
    generalize (l.getD 2 0).toNat = x2 at *
    have i0 : (x0 : Int) < 256 := by omega
    have i1 : (x1 : Int) < 256 := by omega
    have i2 : (x2 : Int) < 256 := by omega
    have wr0 : IntKind.i64.wrap (x0 : Int) = x0 := wrap_small _ (by omega) (by omega)
    have wr1 : IntKind.i64.wrap (x1 : Int) = x1 := wrap_small _ (by omega) (by omega)
    have wr2 : IntKind.i64.wrap (x2 : Int) = x2 := wrap_small _ (by omega) (by omega)
    obtain ⟨N, hN⟩ : ∃ N, 256 * x1 + x2 = N := ⟨_, rfl⟩
    have HNI := hide (show (256 * (x1 : Int) + (x2 : Int)) = (N : Int) by omega)
    rw [hN] at HLN
    rw [HLN.out, HLK.out] at HIP
    rw [HLN.out] at HBL
    have hNlt : N < 65536 := by omega
    clear hN
    by_cases hN5 : N ≤ 505
    · have t2 : decide ((505 : Int) < (N : Int)) = false := decide_eq_false (by omega)
      have hbl : (bodyL l).length = N := by rw [HBL.out, List.length_take, List.length_drop, H512.out]; omega
      have e3 : ((3 + N : Nat) : Int) = 3 + (N : Int) := by omega
      have hc3 : ¬ c = 3 := by omega
      have s2 : ∀ W, (Instr.slice 23 (.slice (some ad) 512 c) (some (.int .i64 3)) (some (.int .i64 (3 + (N : Int)))) none).run Tryd.prog W = .ok (.slice (some (ad.add 3)) N (c - 3)) W := fun W => by
        have := cut_mid8 (some ad) 512 c 3 (3 + N) (by omega) (by omega) W
        rw [e3, if_neg hc3, show 3 + N - 3 = N by omega] at this
        exact this
      have HMID := hide (show BytesAt w w.heap.size (some (ad.add 3)) (bodyL l) by
        have := BytesAt.mid HA.out (i := 3) (j := 3 + N) (c := c) (by omega) (by rw [H512.out]; omega) (by rw [H512.out]; exact hc)
        rw [if_neg hc3, show 3 + N - 3 = N by omega, ← HBL.out] at this
        exact this)
      have HNC := hide (show N ≤ c - 3 by omega)
      have HBLN := hide hbl
      have HPK := hide (fun (W : World) (hW : Below w.heap.size w W) => refPack_post (x0 : Int) (bodyL l) (some (ad.add 3)) N (c - 3) w.heap.size W hbl.symm (by omega) hW.size (HMID.out.lift hW (Nat.le_refl _)))
      rw [decide_eq_true hN5, Bool.true_and] at HIP
      clear hbl e3
      by_cases hx0 : x0 = 0
      · subst hx0
        have HF : Hid (ip = false) := by show ip = false; rw [HIP.out]; rfl
        have HPK2 : Hid (∀ W, Below w.heap.size w W → Calls Tryd.prog 27 #[.int .i64 0, .slice (some (ad.add 3)) N (c - 3)] W fun e w' => e = .returned (.tuple #[.slice none 0 0, .int .i64 2]) ∧ Below W.heap.size W w') := fun W hW => (HPK.out W hW).mono fun e w' h => by
          obtain ⟨A', n', c', code, rfl, hb, ⟨hp, _⟩ | ⟨_, rfl, rfl, rfl, ⟨rfl, _⟩ | ⟨_, h1, _⟩⟩⟩ := h
          · unfold packs at hp
            simp at hp
          · exact ⟨rfl, hb⟩
          · exact absurd h1 (by decide)
        have r0z : w.cell? ad = some (.int .u8 0) := r0
        clear HPK r0
        go_enter Tryd.func29, Tryd.ntmps29
        go_wp2_with fail
        go_quiet (fail)
        rw [HNI.out]
        have HQ0 := hide (below_drewN (Below.refl w.heap.size w) nq)
        go_wp2_with fail
        refine wp_region_assert (listV [isV (.slice (some ad) 512 c), isV (.pointer (some ad)), isV (.int .u8 0), isV (.int .i64 0), isV (.slice (some ad) 512 c), isV (.int .i64 (N : Int)), isV (.int .i64 (3 + (N : Int))), isV (.slice (some (ad.add 3)) N (c - 3)), isV (.tuple #[.slice none 0 0, .int .i64 2]), isV (.tuple #[.slice none 0 0, .int .i64 2]), isV (.slice none 0 0), isV (.int .i64 2), isV (.slice none 0 0), isV (.int .i64 2)]) (by kernel_rfl) (by kernel_rfl) (listV_stable ?_) ?_ ?_
        · exact ⟨isV_stable _, isV_stable _, isV_stable _, isV_stable _, isV_stable _, isV_stable _, isV_stable _, isV_stable _, isV_stable _, isV_stable _, isV_stable _, isV_stable _, isV_stable _, isV_stable _, trivial⟩
        refine ⟨fun vs wk hbk hd => ?_, fun vs wk hbk hd => ?_, fun vs wk hbk hd => ?_, fun vs wk hbk hd => ?_, fun vs wk hbk hd => ?_, fun vs wk hbk hd => ?_, fun vs wk hbk hd => ?_, fun vs wk hbk hd => ?_, fun vs wk hbk hd => ?_, fun vs wk hbk hd => ?_, fun vs wk hbk hd => ?_, fun vs wk hbk hd => ?_, fun vs wk hbk hd => ?_, fun vs wk hbk hd => ?_, trivial⟩
        -- 0: Op.move t0
        · clear hd
          go_wp2
          exact ⟨rfl, rfl, rfl, Below.refl _ _⟩
        -- 1: Op.indexAddr 23 t24 (const (0:i64))
        · simp only [Act.put, List.setIfInBounds_toArray, List.set_cons_zero, List.set_cons_succ]
          have e0 : vs 0 = .slice (some ad) 512 c := hd 0 (by kernel_rfl)
          clear hd
          go_wp2
          first | exact ⟨rfl, rfl, rfl, Below.refl _ _⟩ | exact ⟨rfl, rfl, e0, Below.refl _ _⟩
        -- 2: Op.load 5 t25
        · simp only [Act.put, List.setIfInBounds_toArray, List.set_cons_zero, List.set_cons_succ, Nat.reduceAdd]
          have e1 : vs 1 = .pointer (some ad) := hd 1 (by kernel_rfl)
          have r0k : wk.cell? ad = _ := ((undrew hbk).cell (p := ad) had).trans r0z
          clear hd
          go_wp2
          first | exact ⟨rfl, rfl, rfl, Below.refl _ _⟩ | exact ⟨rfl, rfl, e1, Below.refl _ _⟩
        -- 3: Op.convert 5 3 t26
        · simp only [Act.put, List.setIfInBounds_toArray, List.set_cons_zero, List.set_cons_succ, Nat.reduceAdd]
          have e2 : vs 2 = .int .u8 0 := hd 2 (by kernel_rfl)
          clear hd
          go_wp2
          first | exact ⟨rfl, rfl, rfl, Below.refl _ _⟩ | exact ⟨rfl, rfl, e2, Below.refl _ _⟩
        -- 4: Op.move t0
        · simp only [Act.put, List.setIfInBounds_toArray, List.set_cons_zero, List.set_cons_succ, Nat.reduceAdd]
          clear hd
          go_wp2
          exact ⟨rfl, rfl, rfl, Below.refl _ _⟩
        -- 5: Op.move t5
        · simp only [Act.put, List.setIfInBounds_toArray, List.set_cons_zero, List.set_cons_succ, Nat.reduceAdd]
          clear hd
          go_wp2
          exact ⟨rfl, rfl, rfl, Below.refl _ _⟩
        -- 6: Op.binOp BinOp.add 3 (const (3:i64)) t29 3
        · simp only [Act.put, List.setIfInBounds_toArray, List.set_cons_zero, List.set_cons_succ, Nat.reduceAdd]
          have e5 : vs 5 = .int .i64 (N : Int) := hd 5 (by kernel_rfl)
          clear hd
          go_wp2
          first | exact ⟨rfl, rfl, rfl, Below.refl _ _⟩ | exact ⟨rfl, rfl, e5, Below.refl _ _⟩
        -- 7: Op.slice 23 t28 (some (const (3:i64))) (some t30) none
        · simp only [Act.put, List.setIfInBounds_toArray, List.set_cons_zero, List.set_cons_succ, Nat.reduceAdd]
          have e4 : vs 4 = .slice (some ad) 512 c := hd 4 (by kernel_rfl)
          have e6 : vs 6 = .int .i64 (3 + (N : Int)) := hd 6 (by kernel_rfl)
          clear hd
          go_wp2
          first | exact ⟨rfl, rfl, rfl, Below.refl _ _⟩ | exact ⟨rfl, rfl, e6, Below.refl _ _⟩ | exact ⟨rfl, rfl, e4, Below.refl _ _⟩
        -- 8: Op.call { value (Operand.func 27), args := #[t27, t31], argTypes := #[
        · simp only [Act.put, List.setIfInBounds_toArray, List.set_cons_zero, List.set_cons_succ, Nat.reduceAdd]
          have e3 : vs 3 = .int .i64 0 := hd 3 (by kernel_rfl)
          have e7 : vs 7 = .slice (some (ad.add 3)) N (c - 3) := hd 7 (by kernel_rfl)
          clear hd
          go_wp2_with fail
          refine (unhide HPK2 wk (HQ0.out.trans (undrew hbk))).mono ?_
          rintro e w' ⟨rfl, hbe⟩
          go_wp2
          exact ⟨rfl, rfl, rfl, hbe⟩
        -- 9: Op.move t32
        · simp only [Act.put, List.setIfInBounds_toArray, List.set_cons_zero, List.set_cons_succ, Nat.reduceAdd]
          have e8 : vs 8 = .tuple #[.slice none 0 0, .int .i64 2] := hd 8 (by kernel_rfl)
          clear hd
          go_wp2
          first | exact ⟨rfl, rfl, rfl, Below.refl _ _⟩ | exact ⟨rfl, rfl, e8, Below.refl _ _⟩
        -- 10: Op.extract t23 0
        · simp only [Act.put, List.setIfInBounds_toArray, List.set_cons_zero, List.set_cons_succ, Nat.reduceAdd]
          have e9 : vs 9 = .tuple #[.slice none 0 0, .int .i64 2] := hd 9 (by kernel_rfl)
          clear hd
          go_wp2
          first | exact ⟨rfl, rfl, rfl, Below.refl _ _⟩ | exact ⟨rfl, rfl, e9, Below.refl _ _⟩
        -- 11: Op.extract t23 1
        · simp only [Act.put, List.setIfInBounds_toArray, List.set_cons_zero, List.set_cons_succ, Nat.reduceAdd]
          have e9 : vs 9 = .tuple #[.slice none 0 0, .int .i64 2] := hd 9 (by kernel_rfl)
          clear hd
          go_wp2
          first | exact ⟨rfl, rfl, rfl, Below.refl _ _⟩ | exact ⟨rfl, rfl, e9, Below.refl _ _⟩
        -- 12: Op.assign t33
        · simp only [Act.put, List.setIfInBounds_toArray, List.set_cons_zero, List.set_cons_succ, Nat.reduceAdd]
          have e10 : vs 10 = .slice none 0 0 := hd 10 (by kernel_rfl)
          clear hd
          go_wp2
          first | exact ⟨rfl, rfl, rfl, Below.refl _ _⟩ | exact ⟨rfl, rfl, e10, Below.refl _ _⟩
        -- 13: Op.assign t34
        · simp only [Act.put, List.setIfInBounds_toArray, List.set_cons_zero, List.set_cons_succ, Nat.reduceAdd]
          have e11 : vs 11 = .int .i64 2 := hd 11 (by kernel_rfl)
          clear hd
          go_wp2
          first | exact ⟨rfl, rfl, rfl, Below.refl _ _⟩ | exact ⟨rfl, rfl, e11, Below.refl _ _⟩
        intro vs wk hbk hd
        simp only [putAll, Act.put, List.setIfInBounds_toArray, List.set_cons_zero, List.set_cons_succ, Nat.reduceAdd]
        have e12 : vs 12 = .slice none 0 0 := hd 12 (by decide)
        have e13 : vs 13 = .int .i64 2 := hd 13 (by decide)
        clear hd
        simp only [e12, e13]
        clear e12 e13
        have HE5 := hide (HQ0.out.trans (undrew hbk))
        clear hbk
        go_wp2
        refine bodyPost_ret (results_tmp3 rfl _ _ _) rfl ?_
        exact ⟨none, 0, 0, 0, false, rfl, HE5.out, .inr ⟨HF.out, rfl, rfl, rfl, rfl, rfl⟩⟩
      · have HPK2 : Hid (∀ W, Below w.heap.size w W → Calls Tryd.prog 27 #[.int .i64 (x0 : Int), .slice (some (ad.add 3)) N (c - 3)] W fun e w' => ∃ A c, e = .returned (.tuple #[.slice A (pageL x0 (bodyL l)).length c, .int .i64 0]) ∧ Below W.heap.size W w' ∧ (pageL x0 (bodyL l)).length ≤ c ∧ BytesAt w' w'.heap.size A (pageL x0 (bodyL l))) := fun W hW => (HPK.out W hW).mono fun e w' h => by
          obtain ⟨A', n', c', code, rfl, hb, ⟨hp, rfl, rfl, h2, h3⟩ | ⟨hp, _⟩⟩ := h
          · exact ⟨A', c', rfl, hb, h2, h3⟩
          · exfalso
            unfold packs at hp
            rw [HBLN.out, decide_eq_true (by omega : (1 : Int) ≤ (x0 : Int)), decide_eq_true (by omega : (x0 : Int) ≤ 255), decide_eq_true hN5] at hp
            cases hp
        rw [decide_eq_true (by omega : 1 ≤ x0), Bool.true_and] at HIP
        have HSB := hide (str_beq14 (pageL x0 (bodyL l)) l)
        have HPLN := hide (pageL_len x0 (l := bodyL l) (by rw [HBLN.out]; omega))
        clear HPK
        generalize hpl : pageL x0 (bodyL l) = pl at *
        rw [HPLN.out] at HPK2
        clear hpl
        obtain ⟨bq, hbq⟩ : ∃ bq, ((strOf pl).toList == (strOf l).toList) = bq := ⟨_, rfl⟩
        have HIB : Hid (ip = bq) := by show ip = bq; rw [HIP.out, ← HSB.out, hbq]
        have S2 := hide s2
        clear HIP HSB
        go_enter Tryd.func29, Tryd.ntmps29
        go_wp2_with fail
        go_quiet (fail)
        rw [HNI.out]
        have HQ0 := hide (below_drewN (Below.refl w.heap.size w) nq)
        go_wp2_with fail
        refine wp_region_assert (listV [isV (.slice (some ad) 512 c), isV (.pointer (some ad)), isV (.int .u8 (x0 : Int)), isV (.int .i64 (x0 : Int)), isV (.slice (some ad) 512 c), isV (.int .i64 (N : Int)), isV (.int .i64 (3 + (N : Int))), isV (.slice (some (ad.add 3)) N (c - 3)), PackRes pl, PackRes pl, PackRes0 pl, isV (.int .i64 0), PackRes0 pl, isV (.int .i64 0)]) (by kernel_rfl) (by kernel_rfl) (listV_stable ?_) ?_ ?_
        · exact ⟨isV_stable _, isV_stable _, isV_stable _, isV_stable _, isV_stable _, isV_stable _, isV_stable _, isV_stable _, PackRes_stable _, PackRes_stable _, PackRes0_stable _, isV_stable _, PackRes0_stable _, isV_stable _, trivial⟩
        refine ⟨fun vs wk hbk hd => ?_, fun vs wk hbk hd => ?_, fun vs wk hbk hd => ?_, fun vs wk hbk hd => ?_, fun vs wk hbk hd => ?_, fun vs wk hbk hd => ?_, fun vs wk hbk hd => ?_, fun vs wk hbk hd => ?_, fun vs wk hbk hd => ?_, fun vs wk hbk hd => ?_, fun vs wk hbk hd => ?_, fun vs wk hbk hd => ?_, fun vs wk hbk hd => ?_, fun vs wk hbk hd => ?_, trivial⟩
        -- 0: Op.move t0
        · clear hd
          go_wp2
          exact ⟨rfl, rfl, rfl, Below.refl _ _⟩
        -- 1: Op.indexAddr 23 t24 (const (0:i64))
        · simp only [Act.put, List.setIfInBounds_toArray, List.set_cons_zero, List.set_cons_succ]
          have e0 : vs 0 = .slice (some ad) 512 c := hd 0 (by kernel_rfl)
          clear hd
          go_wp2
          first | exact ⟨rfl, rfl, rfl, Below.refl _ _⟩ | exact ⟨rfl, rfl, e0, Below.refl _ _⟩
        -- 2: Op.load 5 t25
        · simp only [Act.put, List.setIfInBounds_toArray, List.set_cons_zero, List.set_cons_succ, Nat.reduceAdd]
          have e1 : vs 1 = .pointer (some ad) := hd 1 (by kernel_rfl)
          have r0k : wk.cell? ad = _ := ((undrew hbk).cell (p := ad) had).trans r0
          clear hd
          go_wp2
          first | exact ⟨rfl, rfl, rfl, Below.refl _ _⟩ | exact ⟨rfl, rfl, e1, Below.refl _ _⟩
        -- 3: Op.convert 5 3 t26
        · simp only [Act.put, List.setIfInBounds_toArray, List.set_cons_zero, List.set_cons_succ, Nat.reduceAdd]
          have e2 : vs 2 = .int .u8 (x0 : Int) := hd 2 (by kernel_rfl)
          clear hd
          go_wp2
          first | exact ⟨rfl, rfl, rfl, Below.refl _ _⟩ | exact ⟨rfl, rfl, e2, Below.refl _ _⟩
        -- 4: Op.move t0
        · simp only [Act.put, List.setIfInBounds_toArray, List.set_cons_zero, List.set_cons_succ, Nat.reduceAdd]
          clear hd
          go_wp2
          exact ⟨rfl, rfl, rfl, Below.refl _ _⟩
        -- 5: Op.move t5
        · simp only [Act.put, List.setIfInBounds_toArray, List.set_cons_zero, List.set_cons_succ, Nat.reduceAdd]
          clear hd
          go_wp2
          exact ⟨rfl, rfl, rfl, Below.refl _ _⟩
        -- 6: Op.binOp BinOp.add 3 (const (3:i64)) t29 3
        · simp only [Act.put, List.setIfInBounds_toArray, List.set_cons_zero, List.set_cons_succ, Nat.reduceAdd]
          have e5 : vs 5 = .int .i64 (N : Int) := hd 5 (by kernel_rfl)
          clear hd
          go_wp2
          first | exact ⟨rfl, rfl, rfl, Below.refl _ _⟩ | exact ⟨rfl, rfl, e5, Below.refl _ _⟩
        -- 7: Op.slice 23 t28 (some (const (3:i64))) (some t30) none
        · simp only [Act.put, List.setIfInBounds_toArray, List.set_cons_zero, List.set_cons_succ, Nat.reduceAdd]
          have e4 : vs 4 = .slice (some ad) 512 c := hd 4 (by kernel_rfl)
          have e6 : vs 6 = .int .i64 (3 + (N : Int)) := hd 6 (by kernel_rfl)
          clear hd
          go_wp2
          first | exact ⟨rfl, rfl, rfl, Below.refl _ _⟩ | exact ⟨rfl, rfl, e6, Below.refl _ _⟩ | exact ⟨rfl, rfl, e4, Below.refl _ _⟩
        -- 8: Op.call { value (Operand.func 27), args := #[t27, t31], argTypes := #[
        · simp only [Act.put, List.setIfInBounds_toArray, List.set_cons_zero, List.set_cons_succ, Nat.reduceAdd]
          have e3 : vs 3 = .int .i64 (x0 : Int) := hd 3 (by kernel_rfl)
          have e7 : vs 7 = .slice (some (ad.add 3)) N (c - 3) := hd 7 (by kernel_rfl)
          clear hd
          go_wp2_with fail
          refine (unhide HPK2 wk (HQ0.out.trans (undrew hbk))).mono ?_
          rintro e w' ⟨Aq, cq, rfl, hbe, hcq, hbq⟩
          have hpr : PackRes pl (.tuple #[.slice Aq 512 cq, .int .i64 0]) w' := ⟨Aq, cq, rfl, by rw [HPLN.out]; exact hcq, hbq⟩
          clear hbq
          go_wp2
          exact ⟨rfl, rfl, hpr, hbe⟩
        -- 9: Op.move t32
        · simp only [Act.put, List.setIfInBounds_toArray, List.set_cons_zero, List.set_cons_succ, Nat.reduceAdd]
          obtain ⟨A8, c8, e8, hc8, hb8⟩ := (show (PackRes pl) (vs 8) wk from hd 8 (by kernel_rfl))
          go_wp2
          exact ⟨rfl, rfl, hd 8 (by kernel_rfl), Below.refl _ _⟩
        -- 10: Op.extract t23 0
        · simp only [Act.put, List.setIfInBounds_toArray, List.set_cons_zero, List.set_cons_succ, Nat.reduceAdd]
          obtain ⟨A9, c9, e9, hc9, hb9⟩ := (show (PackRes pl) (vs 9) wk from hd 9 (by kernel_rfl))
          clear hd
          go_wp2
          exact ⟨rfl, rfl, ⟨A9, c9, rfl, hc9, hb9⟩, Below.refl _ _⟩
        -- 11: Op.extract t23 1
        · simp only [Act.put, List.setIfInBounds_toArray, List.set_cons_zero, List.set_cons_succ, Nat.reduceAdd]
          obtain ⟨A9, c9, e9, hc9, hb9⟩ := (show (PackRes pl) (vs 9) wk from hd 9 (by kernel_rfl))
          clear hd
          go_wp2
          exact ⟨rfl, rfl, rfl, Below.refl _ _⟩
        -- 12: Op.assign t33
        · simp only [Act.put, List.setIfInBounds_toArray, List.set_cons_zero, List.set_cons_succ, Nat.reduceAdd]
          obtain ⟨A10, c10, e10, hc10, hb10⟩ := (show (PackRes0 pl) (vs 10) wk from hd 10 (by kernel_rfl))
          go_wp2
          exact ⟨rfl, rfl, hd 10 (by kernel_rfl), Below.refl _ _⟩
        -- 13: Op.assign t34
        · simp only [Act.put, List.setIfInBounds_toArray, List.set_cons_zero, List.set_cons_succ, Nat.reduceAdd]
          have e11 : vs 11 = .int .i64 0 := hd 11 (by kernel_rfl)
          clear hd
          go_wp2
          first | exact ⟨rfl, rfl, rfl, Below.refl _ _⟩ | exact ⟨rfl, rfl, e11, Below.refl _ _⟩
        intro vs wk hbk hd
        simp only [putAll, Act.put, List.setIfInBounds_toArray, List.set_cons_zero, List.set_cons_succ, Nat.reduceAdd]
        obtain ⟨A12, c12, e12, hc12, hb12⟩ := (show (PackRes0 pl) (vs 12) wk from hd 12 (by decide))
        have e13 : vs 13 = .int .i64 0 := hd 13 (by decide)
        clear hd
        simp only [e13]
        clear e13
        have HE5 := hide (HQ0.out.trans (undrew hbk))
        have HB5 := hide hb12
        have sa := conv_str 512 c12 HPLN.out.symm hb12
        have sb := conv_str 512 c H512.out.symm (HA.out.lift HE5.out HE5.out.size)
        have r0k : wk.cell? ad = _ := (HE5.out.cell (p := ad) had).trans r0
        clear hb12 hbk
        cases bq with
        | false =>
          go_wp2
          refine bodyPost_ret (results_tmp3 rfl _ _ _) rfl ?_
          exact ⟨none, 0, 0, 0, false, rfl, HE5.out, .inr ⟨HIB.out, rfl, rfl, rfl, rfl, rfl⟩⟩
        | true =>
          go_wp2_with fail
          go_quiet (fail)
          go_wp2
          refine bodyPost_ret (results_tmp3 rfl _ _ _) rfl ?_
          exact ⟨some (ad.add 3), N, c - 3, (x0 : Int), true, rfl, below_drewN HE5.out _, .inl ⟨HIB.out, by rw [HLK.out], rfl, HBLN.out.symm, HNC.out, HMID.out.lift (below_drewN HE5.out _) (below_drewN HE5.out _).size⟩⟩
    · have t2 : decide ((505 : Int) < (N : Int)) = true := decide_eq_true (by omega)
      have HF : Hid (ip = false) := by show ip = false; rw [HIP.out, decide_eq_false hN5]; rfl
      go_enter Tryd.func29, Tryd.ntmps29
      go_wp2_with fail
      go_quiet (fail)
      rw [HNI.out]
      go_wp2
      refine bodyPost_ret (results_tmp3 rfl _ _ _) rfl ?_
      exact ⟨none, 0, 0, 0, false, rfl, below_drewN (Below.refl _ _) _, .inr ⟨HF.out, rfl, rfl, rfl, rfl, rfl⟩⟩
  · have HP := hide (isPage_len h512)
    have hne : ((l.length : Int) != 512) = true := by rw [bne_iff_ne]; omega
    go_enter Tryd.func29, Tryd.ntmps29
    go_wp2
    refine bodyPost_ret (results_tmp3 rfl _ _ _) rfl ?_
    exact ⟨none, 0, 0, 0, false, rfl, Below.refl _ _, .inr ⟨HP.out, rfl, rfl, rfl, rfl, rfl⟩⟩
end Go.Proofs.YtenhjnicadjbaaaDoor
