/-
  The device's Read: sectors in rows of their own. Condition: the device lies as its state says.
-/
import Derived.Test.YtogjdfiimflbaaaDevSettle
namespace Go.Proofs.Ytogjdfiimflbaaa
open Go Go.RowKit

theorem info_rws : (Try.prog.info? 22).map (fun i => (i.zero, i.size, i.bytes)) = some (some (.slice none 0 0), 1, 24) := by kernel_rfl

/-- rows in blocks of their own that a slice owns -/
def OutRows (W : World) (base : Nat) (v : Value) (ls : List (List UInt8)) : Prop := ∃ xs, W.ownsRow base 22 1 v ls.length xs ∧
  ∀ (i : Nat) (hi : i < ls.length), ∃ gi ci cu, xs[i]? = some (.slice (some ⟨gi, 0, none⟩) ls[i].length ci) ∧ ls[i].length ≤ ci ∧ Blk W gi 5 cu ∧ cu.toList.take ls[i].length = byts ls[i]
theorem OutRows.nil (W : World) (base : Nat) : OutRows W base (.slice none 0 0) [] := ⟨[], World.ownsRow_nil _ _ _ _, fun _ h => absurd h (by simp)⟩
theorem OutRows.form {W : World} {base : Nat} {v : Value} {ls : List (List UInt8)} (h : OutRows W base v ls) : ∃ A c, v = .slice A ls.length c ∧ RowsBlk W A ls := by
  obtain ⟨xs, ho, hx⟩ := h
  rcases ho.2 with ⟨rfl, h0⟩ | ⟨g, cap, cur, rfl, hb, hg, hn, hc, hsz, hcut⟩
  · exact ⟨none, 0, by rw [h0], fun hp => absurd hp (by omega)⟩
  · refine ⟨_, cap, rfl, fun _ => ⟨g, cur, rfl, hg, fun i hi => ?_⟩⟩
    obtain ⟨gi, ci, cu, h1, h2, h3, h4⟩ := hx i hi
    refine ⟨gi, ci, cu, ?_, h2, h3, h4⟩
    rw [← hcut, List.getElem?_take_of_lt (by omega), Array.getElem?_toList] at h1
    exact h1
theorem OutRows.snoc {W W' : World} {base : Nat} {v v' : Value} {ls : List (List UInt8)} {xs : List Value} {s : List UInt8} {gi ci : Nat} {cu : Array Value}
    (h : W.ownsRow base 22 1 v ls.length xs)
    (hx : ∀ (i : Nat) (hi : i < ls.length), ∃ gi ci cu, xs[i]? = some (.slice (some ⟨gi, 0, none⟩) ls[i].length ci) ∧ ls[i].length ≤ ci ∧ Blk W' gi 5 cu ∧ cu.toList.take ls[i].length = byts ls[i])
    (ho : W'.ownsRow base 22 1 v' (ls.length + 1) (xs ++ [.slice (some ⟨gi, 0, none⟩) s.length ci])) (hc : s.length ≤ ci) (hb : Blk W' gi 5 cu) (ht : cu.toList.take s.length = byts s) : OutRows W' base v' (ls ++ [s]) := by
  have hxl : xs.length = ls.length := by have := h.1; omega
  refine ⟨_, by rw [List.length_append, List.length_singleton]; exact ho, fun i hi => ?_⟩
  by_cases hlt : i < ls.length
  · obtain ⟨g1, c1, u1, h1, h2, h3, h4⟩ := hx i hlt
    have e : (ls ++ [s])[i] = ls[i] := List.getElem_append_left hlt
    rw [e]
    exact ⟨g1, c1, u1, by rw [List.getElem?_append_left (by omega)]; exact h1, h2, h3, h4⟩
  · obtain rfl : i = ls.length := by
      rw [List.length_append, List.length_singleton] at hi
      omega
    have e : (ls ++ [s])[ls.length] = s := by simp
    rw [e]
    exact ⟨gi, ci, cu, by rw [List.getElem?_append_right (by omega), hxl, Nat.sub_self]; rfl, hc, hb, ht⟩

def secZero : Array Value := (byts (List.replicate 64 0)).toArray
theorem secZero_size : secZero.size = 64 := by simp [secZero, byts]
theorem sec_zero : (Try.prog.info? 77).map (fun i => (i.zero, i.size)) = some (some (.agg secZero), 64) := by kernel_rfl
set_option maxRecDepth 100000 in
theorem zero_sec (W : World) : (zeroValue 77).run Try.prog W = .ok (.agg secZero) W := by
  obtain ⟨i, hi, he⟩ := Option.map_eq_some_iff.1 sec_zero
  injection he with h1 h2
  simp [zeroValue, typeInfo, hi, h1]
theorem cells_sec_new (W : World) (s : List UInt8) (hs : s.length = 64) : (storeCells ⟨W.heap.size, 0, none⟩ (byts s)).run Try.prog (W.alloc (.cells secZero 77)) = .ok () (W.alloc (.cells (byts s).toArray 77)) := by
  have := run_storeCells_new (P := Try.prog) W 77 secZero (byts s).toArray (by rw [sec_info, List.size_toArray, byts_length, hs]) (by rw [secZero_size, List.size_toArray, byts_length, hs]) (all_oneCell_toArray byts_one)
  simpa using this

theorem reads_blk {W : World} {g : Nat} {t : TypeId} {l : List UInt8} (h : Blk W g t (byts l).toArray) : BytesAt W W.heap.size (some ⟨g, 0, none⟩) l := by
  refine ⟨by simp [byts], fun _ => ⟨_, rfl, h.lt, fun j u hu => ?_⟩⟩
  rw [add_flat, Nat.zero_add, h.cell, List.getElem?_toArray]
  exact hu

def readCode (S : DS) (at_ n : Int) : Int := if thereB S at_ n = true then codeN S else 2
def readS (S : DS) (at_ n : Int) : DS := if thereB S at_ n = true then stepN S else S
def readL (S : DS) (at_ n : Int) : List (List UInt8) := if readCode S at_ n = 0 then (S.now.drop at_.toNat).take n.toNat else []

theorem cut_secs (g n c i j : Nat) (hi : i ≤ j) (hj : j ≤ c) (w : World) :
    (Instr.slice 51 (.slice (some ⟨g, 0, none⟩) n c) (some (.int .i64 (i : Int))) (some (.int .i64 (j : Int))) none).run Try.prog w = .ok (.slice (some ⟨g, if c = i then 0 else i * 64, none⟩) (j - i) (c - i)) w := by
  have ht : Try.prog.underlying 51 = some (.slice (Try.prog.elem 51)) := by kernel_rfl
  rw [run_slice_lh w 51 (some ⟨g, 0, none⟩) n c ht .i64 .i64 i j (by omega) (by omega) (by omega)]
  have hs : ((Try.prog.info? (Try.prog.elem 51)).map (·.size)) = some 64 := by kernel_rfl
  obtain ⟨q, hq, hz⟩ := Option.map_eq_some_iff.1 hs
  by_cases hc : c = i
  · simp [sizeOf, typeInfo, hq, sliced, hc]
  · simp [sizeOf, typeInfo, hq, sliced, hc, hz, add_flat]

set_option maxRecDepth 100000 in
set_option maxHeartbeats 2000000 in
theorem read_ok (W : World) (B g : Nat) (S : DS) (h : DevAt W B g S) (hn : S.n < 1048576) (hl : -1 ≤ S.left) (a n : Nat) (han : a + n ≤ S.kept.length) (hc0 : codeN S = 0) :
    Calls Try.prog 12 #[.pointer (some ⟨g, 0, none⟩), .int .i64 (a : Int), .int .i64 (n : Int)] W fun e W' => ∃ A c, e = .returned (.tuple #[.slice A n c, .int .i64 0]) ∧ RowsBlk W' A ((S.now.drop a).take n) ∧ DevAt W' B g (stepN S) ∧ DKeep B W W' := by
  have hlen : S.kept.length ≤ 65536 := h.ok.2.2.2.2.1
  have htb : thereB S a n = true := decide_eq_true ⟨by omega, by omega, by omega, by omega⟩
  have HT := hide (there_any W B g S h a n (by omega))
  have HN := hide (next_any W B g S h hn hl)
  rw [htb] at HT
  rw [hc0] at HN
  have hkl : (stepN S).kept.length = S.kept.length := by unfold stepN; split <;> rfl
  have HNOW := hide (show (stepN S).now = S.now by unfold stepN; split <;> rfl)
  have HNL := hide (show S.now.length = S.kept.length from h.ok.1)
  have HN64 := hide (show All64 S.now from h.ok.2.2.1)
  obtain ⟨i0, hi0, hz0, hz1, hz2⟩ := info_parts info_rws
  clear h htb hc0
  go_enter Try.func12, Try.ntmps12
  go_wp2_with fail
  refine (unhide HT).mono ?_
  rintro e w' ⟨rfl, rfl⟩
  go_wp2_with fail
  refine (unhide HN).mono ?_
  rintro e w1 ⟨rfl, hd, hk⟩
  obtain ⟨gk, gn, bv, qv, hin⟩ := hd
  have HIN := hide hin
  have HK := hide hk
  have r4 : w1.cell? ⟨g, 4, none⟩ = some (.slice (some ⟨gn, 0, none⟩) S.kept.length S.kept.length) := by
    rw [← hkl]
    exact hin.dev.cell 4
  have HC := hide (fun W' => cut_secs gn S.kept.length S.kept.length a (a + n) (by omega) han W')
  have ean : ((a + n : Nat) : Int) = (a : Int) + (n : Int) := by omega
  rw [ean] at HC
  rw [show a + n - a = n by omega] at HC
  have hcut := HC.out
  have HNB : Hid (Blk w1 gn 77 (byts S.now.flatten).toArray) := by
    have := hin.now
    rw [HNOW.out] at this
    exact this
  have hBs : B ≤ w1.heap.size := Nat.le_trans hin.bg (Nat.le_of_lt hin.dev.lt)
  have HBS := hide hBs
  clear hk hin HT HN ean HC hBs hkl
  generalize hoff : (if S.kept.length = a then 0 else a * 64) = off at *
  have HOFF := hide hoff
  clear hoff
  go_wp2_with fail
  go_loopw [34, 9] (fun i v wr => ∃ j : Nat, j ≤ n ∧ i = .int .i64 j ∧ OutRows wr w1.heap.size v ((S.now.drop a).take j) ∧ Below w1.heap.size w1 wr) (fun i _ _ => n - (intOf i).toNat)
  case atStart => exact ⟨0, Nat.zero_le _, rfl, by rw [List.take_zero]; exact OutRows.nil _ _, Below.refl _ _⟩
  case round =>
    obtain ⟨j, hj, rfl, hout, hbe⟩ := hrel
    have HBE := hide hbe
    by_cases hlt : j < n
    · have hlj : a + j < S.now.length := by rw [HNL.out]; omega
      have ho : off = a * 64 := by
        rw [← HOFF.out]
        exact if_neg (by omega)
      subst ho
      have HRG : Hid (wr.rangeAt gn (a * 64 + j * 64) (byts S.now[a + j])) := by
        have := secs_range (HNB.out.below hbe HNB.out.lt) HN64.out hlj
        rw [show (a + j) * 64 = a * 64 + j * 64 by omega] at this
        exact this
      have hs64 : S.now[a + j].length = 64 := HN64.out _ (List.getElem_mem hlj)
      have HTK := hide (show (S.now.drop a).take (j + 1) = (S.now.drop a).take j ++ [S.now[a + j]] by
        rw [List.take_succ_eq_append_getElem (by rw [List.length_drop]; omega), List.getElem_drop])
      generalize S.now[a + j] = s at *
      have HRL := hide (show ((S.now.drop a).take j).length = j by rw [List.length_take, List.length_drop, HNL.out]; omega)
      generalize (S.now.drop a).take j = R at *
      have HOUT := hide hout
      have i1 : (0 : Int) ≤ (j : Int) := by omega
      have i2 : (j : Int) < (n : Int) := by omega
      have hls := byts_length s
      have hsc := cells_sec_new wr s hs64
      have hzz := fun W' => zero_sec W'
      have HB2 : Hid (Blk (wr.alloc (.cells (byts s).toArray 77)) wr.heap.size 77 (byts s).toArray) := Blk.new _ _ _
      have HW2 : Hid (Below wr.heap.size wr (wr.alloc (.cells (byts s).toArray 77))) := (Below.refl _ _).alloc (Nat.le_refl _) _
      have HSZ : Hid ((wr.alloc (.cells (byts s).toArray 77)).heap.size = wr.heap.size + 1) := by
        show _ = _
        rw [World.size_alloc]
      generalize wr.alloc (.cells (byts s).toArray 77) = W2 at *
      clear hout hbe hlj
      go_wp2_with (with_reducible refine wpList_load_mid rfl 77 (.tmp 36) rfl gn (a * 64 + j * 64) rfl (byts s) _ HRG.out Try.underlying77 rfl (by rw [sec_info, hls, hs64]) ?_)
      refine (clone_some s ⟨wr.heap.size, 0, none⟩ 64 64 W2.heap.size W2 hs64.symm (by omega) (Nat.le_refl _) (reads_blk HB2.out)).mono ?_
      rintro e w3 ⟨v3, rfl, ho3, hb3⟩
      rw [hs64] at ho3
      obtain ⟨gi, ci, rfl, hgi, hgi2⟩ := ho3.form (by omega)
      have HO3 := hide ho3
      have HB3 := hide hb3
      obtain ⟨xs, hox, hxx⟩ := HOUT.out
      rw [HRL.out] at hox
      have HB13 : Hid (Below w1.heap.size w1 w3) := HBE.out.trans ((HW2.out.mono HBE.out.size).trans (hb3.mono (by have := HBE.out.size; have := HSZ.out; omega)))
      have HBR3 : Hid (Below wr.heap.size wr w3) := HW2.out.trans (hb3.mono (by have := HSZ.out; omega))
      have HOX := hide (own_keep hox HBR3.out)
      have HXX := hide hxx
      clear ho3 hb3 hsc hzz hox hxx
      go_wp2_with (at_builtin; refine wpList_append_any _ rfl (.tmp 38) (.tmp 41) _ rfl w1.heap.size 22 i0 _ 1 24 Try.underlying43 hi0 hz0 hz1 hz2 rfl (by omega) _ j xs rfl (World.ownsRow.alloc HOX.out _) (w3.heap.size + 1) (some ⟨w3.heap.size, 0, none⟩) 1 1 [.slice (some ⟨gi, 0, none⟩) 64 ci] rfl (reads_one (by omega) (cellN rfl rfl)) (by simp [Value.oneCell']) (by simp only [maxLen]; omega) (by omega) (by rw [World.size_alloc]; have := HB13.out.size; omega) ?_; intro v' w4 hown' hgrow _)
      have hch : ∀ g (cs : Array Value), Blk w3 g 5 cs → Blk w4 g 5 cs := fun g cs hb => (hb.alloc _).grown hgrow (own_blk_ne HOX.out hb (by decide)).symm
      have HO : Hid (OutRows w4 w1.heap.size v' (R ++ [s])) := by
        rcases HO3.out.2 with ⟨e, _⟩ | ⟨g', cap', cu, e, _, hgc, hcc, _, _, hcut3⟩
        · cases e
        · injection e with e1 e2 e3
          injection e1 with e1
          injection e1 with e1
          subst e1 e3
          refine OutRows.snoc (W := w3) (by rw [HRL.out]; exact HOX.out) (fun i hi => ?_) (by rw [HRL.out, hs64]; exact hown') (by rw [hs64]; exact hcc) (hch _ _ hgc) (by rw [hs64]; simpa using hcut3)
          obtain ⟨g1, c1, u1, q1, q2, q3, q4⟩ := HXX.out i hi
          exact ⟨g1, c1, u1, q1, q2, hch _ _ (q3.below HBR3.out q3.lt), q4⟩
      have HB14 : Hid (Below w1.heap.size w1 w4) := (HB13.out.alloc HB13.out.size _).grown hgrow (by rw [World.size_alloc]; have := HB13.out.size; omega) (fun g hg => (World.ownsRow.lt HOX.out g hg).1)
      clear hch hgrow hown'
      go_roundw
      case rel => exact ⟨j + 1, by omega, by go_num, by rw [HTK.out]; exact HO.out, HB14.out⟩
      case measure => simp [intOf]; omega
    · obtain rfl : j = n := by omega
      obtain ⟨A, c, rfl, hrows⟩ := hout.form
      have hl : ((S.now.drop a).take j).length = j := by rw [List.length_take, List.length_drop, HNL.out]; omega
      rw [hl]
      have HR := hide hrows
      have HBE := hide hbe
      clear hout hbe hrows hl
      go_wp2
      go_ret2
      exact ⟨A, c, rfl, HR.out, ⟨gk, gn, bv, qv, HIN.out.lift HBE.out⟩, HK.out.trans (DKeep.of_below HBE.out HBS.out)⟩

set_option maxRecDepth 100000 in
set_option maxHeartbeats 1000000 in
theorem read_any (W : World) (B g : Nat) (S : DS) (h : DevAt W B g S) (hn : S.n < 1048576) (hl : -1 ≤ S.left) (at_ n : Int) (hn2 : n ≤ 1099511627776) :
    Calls Try.prog 12 #[.pointer (some ⟨g, 0, none⟩), .int .i64 at_, .int .i64 n] W fun e W' => ∃ A c, e = .returned (.tuple #[.slice A (readL S at_ n).length c, .int .i64 (readCode S at_ n)]) ∧ RowsBlk W' A (readL S at_ n) ∧ DevAt W' B g (readS S at_ n) ∧ DKeep B W W' := by
  have HT := hide (there_any W B g S h at_ n hn2)
  cases htb : thereB S at_ n with
  | false =>
    have e1 : readCode S at_ n = 2 := by unfold readCode; rw [htb]; rfl
    have e2 : readS S at_ n = S := by unfold readS; rw [htb]; rfl
    have e3 : readL S at_ n = [] := by unfold readL; rw [e1]; rfl
    rw [e1, e2, e3]
    rw [htb] at HT
    have HD := hide h
    clear h htb e1 e2 e3
    go_enter Try.func12, Try.ntmps12
    go_wp2_with fail
    refine (unhide HT).mono ?_
    rintro e w' ⟨rfl, rfl⟩
    go_wp2
    go_ret2
    exact ⟨none, 0, rfl, fun hp => absurd hp (by simp), HD.out, DKeep.refl _ _⟩
  | true =>
    have hth := of_decide_eq_true htb
    by_cases hc0 : codeN S = 0
    · obtain ⟨a, rfl⟩ : ∃ a : Nat, at_ = a := ⟨at_.toNat, by omega⟩
      obtain ⟨m, rfl⟩ : ∃ m : Nat, n = m := ⟨n.toNat, by omega⟩
      have e1 : readCode S a m = 0 := by unfold readCode; rw [htb]; exact hc0
      have e2 : readS S a m = stepN S := by unfold readS; rw [htb]; rfl
      have e3 : readL S a m = (S.now.drop a).take m := by unfold readL; rw [if_pos e1]; rfl
      have hlen : ((S.now.drop a).take m).length = m := by
        have := h.ok.1
        rw [List.length_take, List.length_drop]
        omega
      rw [e1, e2, e3, hlen]
      exact read_ok W B g S h hn hl a m (by omega) hc0
    · have e1 : readCode S at_ n = codeN S := by unfold readCode; rw [htb]; rfl
      have e2 : readS S at_ n = stepN S := by unfold readS; rw [htb]; rfl
      have e3 : readL S at_ n = [] := by unfold readL; rw [e1, if_neg hc0]
      have hne : (codeN S != 0) = true := by simpa using hc0
      rw [e1, e2, e3]
      rw [htb] at HT
      have HN := hide (next_any W B g S h hn hl)
      clear h htb e1 e2 e3 hc0 hth
      generalize codeN S = cd at *
      go_enter Try.func12, Try.ntmps12
      go_wp2_with fail
      refine (unhide HT).mono ?_
      rintro e w' ⟨rfl, rfl⟩
      go_wp2_with fail
      refine (unhide HN).mono ?_
      rintro e w1 ⟨rfl, hd, hk⟩
      have HD := hide hd
      have HK := hide hk
      clear hd hk
      go_wp2
      go_ret2
      exact ⟨none, 0, rfl, fun hp => absurd hp (by simp), HD.out, HK.out⟩
end Go.Proofs.Ytogjdfiimflbaaa
