/-
  The reference device's See, Read and Fail. Condition: it lies as its state says.
-/
import Derived.Test.YtenhjnicadjbaaaDoorRefMem
namespace Go.Proofs.YtenhjnicadjbaaaDoor
open Go Go.RowKit

def seeQ (i : Nat) (q : List (Nat × List UInt8)) (s : List UInt8) : List UInt8 := q.foldl (fun s e => if e.1 = i then e.2 else s) s
def seeL (R : RS) (i : Nat) : List UInt8 := seeQ i R.wait (R.safe.getD i [])
theorem seeQ_none (i : Nat) : ∀ (q : List (Nat × List UInt8)) (s : List UInt8), (∀ e ∈ q, e.1 ≠ i) → seeQ i q s = s
  | [], _, _ => rfl
  | e :: r, s, h => by
    show seeQ i r (if e.1 = i then e.2 else s) = s
    rw [if_neg (h e List.mem_cons_self)]
    exact seeQ_none i r s fun x hx => h x (List.mem_cons_of_mem _ hx)
theorem seeQ_append (i : Nat) (a b : List (Nat × List UInt8)) (s : List UInt8) : seeQ i (a ++ b) s = seeQ i b (seeQ i a s) := List.foldl_append
theorem seeQ_at {i k : Nat} {q : List (Nat × List UInt8)} (s : List UInt8) (hk : k < q.length) (h1 : q[k].1 = i) (h : ∀ e ∈ q.drop (k + 1), e.1 ≠ i) : seeQ i q s = q[k].2 := by
  have e : q = q.take k ++ [q[k]] ++ q.drop (k + 1) := by
    rw [← List.take_succ_eq_append_getElem hk, List.take_append_drop]
  have e2 : seeQ i q s = seeQ i (q.take k ++ [q[k]] ++ q.drop (k + 1)) s := congrArg (fun x => seeQ i x s) e
  rw [e2, seeQ_append, seeQ_none i _ _ h, seeQ_append]
  show (if q[k].1 = i then _ else _) = _
  rw [if_pos h1]

def SecRes (l : List UInt8) (W : World) (v : Value) : Prop := ∃ g c cu, v = .slice (some ⟨g, 0, none⟩) 64 c ∧ 64 ≤ c ∧ Blk W g 5 cu ∧ cu.toList.take 64 = byts l

set_option maxRecDepth 100000 in
set_option maxHeartbeats 1000000 in
theorem rsee_any (W : World) (B r : Nat) (R : RS) (h : RefAt W B r R) (i : Nat) (hi : i < R.safe.length) :
    Calls Tryd.prog 53 #[.pointer (some ⟨r, 0, none⟩), .int .i64 (i : Int)] W fun e W' => ∃ v, e = .returned v ∧ SecRes (seeL R i) W v ∧ W = W' := by
  obtain ⟨sv, wv, bv, h⟩ := h
  obtain ⟨As, cs, rfl, hrs⟩ := h.safe.form
  obtain ⟨Aw, cw, rfl, hrw⟩ := h.wait.form
  have r0 := h.cells.1
  have r1 := h.cells.2.1
  have hq5 := h.ok.2.2.2.1
  have hs5 := h.ok.2.2.1
  have H64 := hide h.ok.1
  have HRS := hide hrs
  have HRW := hide hrw
  have i1 : (0 : Int) ≤ (i : Int) := by omega
  have i2 : (i : Int) < (R.safe.length : Int) := by omega
  clear h hrs hrw
  go_enter Tryd.func53, Tryd.ntmps53
  go_wp2
  go_loop [5] (fun v => ∃ j : Int, -1 ≤ j ∧ j < R.wait.length ∧ v = .int .i64 j ∧ ∀ e ∈ R.wait.drop (j + 1).toNat, e.1 ≠ i) (fun v => (intOf v + 1).toNat)
  case atStart =>
    refine ⟨_, by omega, by omega, rfl, fun e he => ?_⟩
    rw [show ((R.wait.length : Int) - 1 + 1).toNat = R.wait.length by omega, List.drop_length] at he
    cases he
  case round =>
    obtain ⟨j, hj1, hj2, rfl, hno⟩ := hrel
    have HN := hide hno
    clear hno
    by_cases h0 : 0 ≤ j
    · obtain ⟨k, rfl⟩ : ∃ k : Nat, j = k := ⟨j.toNat, by omega⟩
      have hlt : k < R.wait.length := by omega
      obtain ⟨g, gi, ci, cu, rfl, q1, q2, q3, q4, q5⟩ := HRW.out k hlt
      rw [Nat.mul_comm 2 k] at q1 q2
      have HD := hide (show R.wait.drop k = R.wait[k] :: R.wait.drop (k + 1) from List.drop_eq_getElem_cons hlt)
      rw [show ((k : Int) + 1).toNat = k + 1 by omega] at HN
      by_cases he : R.wait[k].1 = i
      · have HS := hide (seeQ_at (R.safe.getD i []) hlt he HN.out)
        have HE := hide (show SecRes R.wait[k].2 W (.slice (some ⟨gi, 0, none⟩) 64 ci) from ⟨gi, ci, cu, rfl, q3, q4, q5⟩)
        have tb : (((R.wait[k].1 : Nat) : Int) == (i : Int)) = true := by simp [he]
        clear he q3 q4 q5
        generalize R.wait[k] = e at *
        go_wp2
        go_ret
        exact ⟨_, rfl, by unfold seeL; rw [HS.out]; exact HE.out, rfl⟩
      · have HE := hide he
        have tb : (((R.wait[k].1 : Nat) : Int) == (i : Int)) = false := by
          rw [beq_eq_false_iff_ne]
          intro e
          exact he (by omega)
        clear he q3 q4 q5
        generalize R.wait[k] = e at *
        go_wp2
        go_round
        case rel =>
          refine ⟨_, by omega, by omega, rfl, fun x hx => ?_⟩
          rw [show ((k : Int) - 1 + 1).toNat = k by omega, HD.out] at hx
          rcases List.mem_cons.1 hx with rfl | hx
          · exact HE.out
          · exact HN.out x hx
        case measure => simp [intOf]
    · obtain rfl : j = -1 := by omega
      obtain ⟨gr, cur, rfl, hb, hc⟩ := HRS.out (by omega)
      obtain ⟨gi, ci, cu, h1, h2, h3, h4⟩ := hc i hi
      have hl64 : R.safe[i].length = 64 := H64.out _ (List.getElem_mem hi)
      rw [hl64] at h1 h2 h4
      have c1 := (hb.cell i).trans h1
      have HE := hide (show SecRes (seeL R i) W (.slice (some ⟨gi, 0, none⟩) 64 ci) from ⟨gi, ci, cu, rfl, h2, h3, by
        unfold seeL
        have hno := HN.out
        rw [show ((-1 : Int) + 1).toNat = 0 from rfl, List.drop_zero] at hno
        rw [seeQ_none i _ _ hno, List.getD_eq_getElem?_getD, List.getElem?_eq_getElem hi]
        exact h4⟩)
      clear hb hc h1 h2 h3 h4 hl64
      go_wp2
      go_ret
      exact ⟨_, rfl, HE.out, rfl⟩

def nowR (R : RS) : List (List UInt8) := (List.range R.safe.length).map (seeL R)
def readCodeR (R : RS) (at_ n : Int) : Int := if thereR R at_ n = true then codeR R else 2
def readRS (R : RS) (at_ n : Int) : RS := if thereR R at_ n = true then stepR R else R
def readLR (R : RS) (at_ n : Int) : List (List UInt8) := if readCodeR R at_ n = 0 then ((nowR R).drop at_.toNat).take n.toNat else []
theorem nowR_step (R : RS) : nowR (stepR R) = nowR R := rfl
theorem nowR_len (R : RS) : (nowR R).length = R.safe.length := by simp [nowR]
theorem nowR_get (R : RS) {i : Nat} (h : i < R.safe.length) : (nowR R)[i]? = some (seeL R i) := by simp [nowR, h]

set_option maxRecDepth 100000 in
set_option maxHeartbeats 1000000 in
theorem rread_ok (W : World) (B r : Nat) (R : RS) (h : RefAt W B r R) (hn : R.n < 1048576) (a n : Nat) (han : a + n ≤ R.safe.length) (hc0 : codeR R = 0) (h64 : All64 (nowR R)) :
    Calls Tryd.prog 35 #[.pointer (some ⟨r, 0, none⟩), .int .i64 (a : Int), .int .i64 (n : Int)] W fun e W' => ∃ A c, e = .returned (.tuple #[.slice A n c, .int .i64 0]) ∧ RowsBlk W' A (((nowR R).drop a).take n) ∧ RefAt W' B r (stepR R) ∧ RKeep B W W' := by
  have HT := hide (rthere_any W B r R h a n (by obtain ⟨_, _, _, h⟩ := h; have := h.ok.2.2.1; omega))
  have htb : thereR R a n = true := decide_eq_true ⟨by omega, by omega, by omega, by omega⟩
  rw [htb] at HT
  have HN := hide (rcall_any W B r R h hn)
  rw [hc0] at HN
  have HNL := hide (nowR_len R)
  have HNG := hide (fun i (hi : i < R.safe.length) => nowR_get R hi)
  have hs5 : R.safe.length ≤ 65536 := by obtain ⟨_, _, _, h⟩ := h; exact h.ok.2.2.1
  have H64 := hide h64
  have HBR : Hid (B ≤ W.heap.size) := by obtain ⟨_, _, _, h⟩ := h; exact Nat.le_trans h.br (Nat.le_of_lt h.dev.lt)
  have HLS := hide (show (stepR R).safe.length = R.safe.length from rfl)
  have HSE := hide (show ∀ i, seeL (stepR R) i = seeL R i from fun _ => rfl)
  obtain ⟨i0, hi0, hz0, hz1, hz2⟩ := info_parts info_rws
  clear h htb hc0 h64
  go_enter Tryd.func35, Tryd.ntmps35
  go_wp2_with fail
  refine (unhide HT).mono ?_
  rintro e w' ⟨rfl, rfl⟩
  go_wp2_with fail
  refine (unhide HN).mono ?_
  rintro e w1 ⟨rfl, hd, hk⟩
  have HD := hide hd
  have HK := hide hk
  clear hd hk HT HN
  generalize hR1 : stepR R = R1 at *
  generalize hNN : nowR R = N at *
  have HR1 := hide hR1
  have HNN := hide hNN
  clear hR1 hNN
  go_wp2_with fail
  go_loopw [10, 9] (fun i v wr => ∃ j : Nat, j ≤ n ∧ i = .int .i64 ((a : Int) + (j : Int)) ∧ OutRows wr w1.heap.size v ((N.drop a).take j) ∧ Below w1.heap.size w1 wr) (fun i _ _ => a + n - (intOf i).toNat)
  case atStart => exact ⟨0, Nat.zero_le _, by simp, by rw [List.take_zero]; exact OutRows.nil _ _, Below.refl _ _⟩
  case round =>
    obtain ⟨j, hj, rfl, hout, hbe⟩ := hrel
    have HBE := hide hbe
    have i1 : (0 : Int) ≤ (a : Int) + (j : Int) := by omega
    by_cases hlt : j < n
    · have hlj : a + j < R.safe.length := by omega
      have HSR := hide (rsee_any wr B r R1 (HD.out.lift hbe) (a + j) (by rw [HLS.out]; exact hlj))
      have hNl : a + j < N.length := by rw [HNL.out]; exact hlj
      have hNe : N[a + j] = seeL R (a + j) := by
        have := HNG.out (a + j) hlj
        rw [List.getElem?_eq_getElem hNl] at this
        exact Option.some.inj this
      rw [show ((a + j : Nat) : Int) = (a : Int) + (j : Int) by omega, HSE.out (a + j), ← hNe] at HSR
      clear hNe
      have hs64 : N[a + j].length = 64 := H64.out _ (List.getElem_mem hNl)
      have HTK := hide (show (N.drop a).take (j + 1) = (N.drop a).take j ++ [N[a + j]] by
        rw [List.take_succ_eq_append_getElem (by rw [List.length_drop]; omega), List.getElem_drop])
      have HRL := hide (show ((N.drop a).take j).length = j by rw [List.length_take, List.length_drop, HNL.out]; omega)
      generalize N[a + j] = s at *
      generalize (N.drop a).take j = Q at *
      have HOUT := hide hout
      have i2 : (a : Int) + (j : Int) < (a : Int) + (n : Int) := by omega
      clear hout hbe hNl
      go_wp2_with fail
      refine (unhide HSR).mono ?_
      rintro e w2 ⟨v, rfl, ⟨gi, ci, cu, rfl, hci, hbk, htk⟩, rfl⟩
      obtain ⟨xs, hox, hxx⟩ := HOUT.out
      rw [HRL.out] at hox
      have HOX := hide hox
      have HXX := hide hxx
      have HBK := hide hbk
      have HCI := hide hci
      have HTC := hide htk
      clear hox hxx hbk hci htk HSR
      go_wp2_with (at_builtin; refine wpList_append_any _ rfl (.tmp 29) (.tmp 33) _ rfl w1.heap.size 23 i0 _ 1 24 Tryd.underlying22 hi0 hz0 hz1 hz2 rfl (by omega) _ j xs rfl (World.ownsRow.alloc HOX.out _) (wr.heap.size + 1) (some ⟨wr.heap.size, 0, none⟩) 1 1 [.slice (some ⟨gi, 0, none⟩) 64 ci] rfl (reads_one (by omega) (cellN rfl rfl)) (by simp [Value.oneCell']) (by simp only [maxLen]; omega) (by omega) (by rw [World.size_alloc]; have := HBE.out.size; omega) ?_; intro v' w4 hown' hgrow _)
      have hch : ∀ g (cs : Array Value), Blk wr g 5 cs → Blk w4 g 5 cs := fun g cs hb => (hb.alloc _).grown hgrow (own_blk_ne HOX.out hb (by decide)).symm
      have HO : Hid (OutRows w4 w1.heap.size v' (Q ++ [s])) := by
        refine OutRows.snoc (W := wr) (by rw [HRL.out]; exact HOX.out) (fun i hi => ?_) (by rw [HRL.out, hs64]; exact hown') (by rw [hs64]; exact HCI.out) (hch _ _ HBK.out) (by rw [hs64]; exact HTC.out)
        obtain ⟨g1, c1, u1, q1, q2, q3, q4⟩ := HXX.out i hi
        exact ⟨g1, c1, u1, q1, q2, hch _ _ q3, q4⟩
      have HB14 : Hid (Below w1.heap.size w1 w4) := (HBE.out.alloc HBE.out.size _).grown hgrow (by rw [World.size_alloc]; have := HBE.out.size; omega) (fun g hg => (World.ownsRow.lt HOX.out g hg).1)
      clear hch hgrow hown'
      have e1 : (a : Int) + (j : Int) + 1 = (a : Int) + ((j + 1 : Nat) : Int) := by omega
      go_roundw
      case rel => exact ⟨j + 1, by omega, by rw [e1], by rw [HTK.out]; exact HO.out, HB14.out⟩
      case measure => simp [intOf]; omega
    · obtain rfl : j = n := by omega
      obtain ⟨A, c, rfl, hrows⟩ := hout.form
      have hl : ((N.drop a).take j).length = j := by rw [List.length_take, List.length_drop, HNL.out]; omega
      rw [hl]
      have HR := hide hrows
      have HBE := hide hbe
      clear hout hbe hrows hl
      go_wp2
      go_ret2
      rw [HR1.out, HNN.out]
      refine ⟨A, c, rfl, HR.out, HD.out.lift HBE.out, ⟨HK.out.1.trans (HBE.out.mono (Nat.le_trans HBR.out HK.out.1.size)), fun q cs t hb hn => ?_⟩⟩
      have := HK.out.2 q cs t hb (by
        unfold refT at hn
        cases ht : (t == 95) with
        | false => exact ht
        | true => rw [ht] at hn; simp at hn)
      exact this.below HBE.out this.lt
end Go.Proofs.YtenhjnicadjbaaaDoor
