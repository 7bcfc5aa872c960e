/-
  The reference device's Flush. Condition: it lies as its state says.
-/
import Derived.Test.YtenhjnicadjbaaaDoorRefSmall
namespace Go.Proofs.YtenhjnicadjbaaaDoor
open Go Go.RowKit

def flushQ (q : List (Nat × List UInt8)) (K : List (List UInt8)) : List (List UInt8) := q.foldl (fun K e => K.set e.1 e.2) K
theorem flushQ_snoc (q : List (Nat × List UInt8)) (e : Nat × List UInt8) (K : List (List UInt8)) : flushQ (q ++ [e]) K = (flushQ q K).set e.1 e.2 := by
  unfold flushQ
  rw [List.foldl_append]
  rfl
theorem flushQ_len : ∀ (q : List (Nat × List UInt8)) (K : List (List UInt8)), (flushQ q K).length = K.length
  | [], _ => rfl
  | e :: r, K => by
    show (flushQ r (K.set e.1 e.2)).length = _
    rw [flushQ_len r, List.length_set]
theorem flushQ_64 : ∀ (q : List (Nat × List UInt8)) (K : List (List UInt8)), All64 K → (∀ e ∈ q, e.2.length = 64) → All64 (flushQ q K)
  | [], _, h, _ => h
  | e :: r, K, h, hq => flushQ_64 r (K.set e.1 e.2) (h.set (hq e List.mem_cons_self)) fun x hx => hq x (List.mem_cons_of_mem _ hx)
def flushR (R : RS) : RS := if codeR R = 0 then { stepR R with safe := flushQ R.wait R.safe, wait := [] } else stepR R

theorem own_set {W : World} {base g n c i : Nat} {e : TypeId} {xs : List Value} {u : Value} (h : W.ownsRow base e 1 (.slice (some ⟨g, 0, none⟩) n c) n xs) (hi : i < n) : (W.setCell ⟨g, i, none⟩ u).ownsRow base e 1 (.slice (some ⟨g, 0, none⟩) n c) n (xs.set i u) := by
  refine ⟨by rw [List.length_set]; exact h.1, .inr ?_⟩
  rcases h.2 with ⟨e, _⟩ | ⟨g', cap, cur, hv, hb, hg, hn, hc, hsz, hcut⟩
  · cases e
  · injection hv with h1 h2 h3
    injection h1 with h1
    injection h1 with h1
    subst h1
    refine ⟨g, cap, cur.setIfInBounds i u, by rw [h3], hb, ?_, hn, hc, by rw [Array.size_setIfInBounds]; exact hsz, ?_⟩
    · have : Blk W g e cur := hg
      exact this.set_ i u
    · rw [← hcut]
      simp only [Nat.mul_one, Array.toList_setIfInBounds]
      rw [List.take_set]
theorem OutRows.set {W : World} {B g n c i gi ci : Nat} {ls : List (List UInt8)} {s : List UInt8} {cu : Array Value} (h : OutRows W B (.slice (some ⟨g, 0, none⟩) n c) ls) (hn : n = ls.length) (hi : i < ls.length) (hc : s.length ≤ ci) (hb : Blk W gi 5 cu) (ht : cu.toList.take s.length = byts s) :
    OutRows (W.setCell ⟨g, i, none⟩ (.slice (some ⟨gi, 0, none⟩) s.length ci)) B (.slice (some ⟨g, 0, none⟩) n c) (ls.set i s) := by
  subst hn
  obtain ⟨xs, ho, hx⟩ := h
  have hxl : xs.length = ls.length := by have := ho.1; omega
  have hrow : ∃ cur, Blk W g 23 cur := by
    rcases ho.2 with ⟨e, _⟩ | ⟨g', cap, cur, hv, hb, hg, _⟩
    · cases e
    · injection hv with h1
      injection h1 with h1
      injection h1 with h1
      subst h1
      exact ⟨cur, hg⟩
  obtain ⟨cur, hgb⟩ := hrow
  have far : ∀ p cs, Blk W p 5 cs → Blk (W.setCell ⟨g, i, none⟩ (.slice (some ⟨gi, 0, none⟩) s.length ci)) p 5 cs := fun p cs hp => hp.far (fun e => Blk.ne_ hgb hp (by decide) (by exact e.symm)) _
  refine ⟨xs.set i (.slice (some ⟨gi, 0, none⟩) s.length ci), by rw [List.length_set]; exact own_set ho hi, fun j hj => ?_⟩
  rw [List.length_set] at hj
  by_cases hij : i = j
  · subst hij
    refine ⟨gi, ci, cu, ?_, ?_, far _ _ hb, ?_⟩
    · rw [List.getElem?_set_self (by omega), List.getElem_set_self]
    · rw [List.getElem_set_self]; exact hc
    · rw [List.getElem_set_self]; exact ht
  · obtain ⟨g1, c1, u1, q1, q2, q3, q4⟩ := hx j hj
    have e : (ls.set i s)[j]'(by rw [List.length_set]; exact hj) = ls[j] := List.getElem_set_ne hij _
    rw [e]
    exact ⟨g1, c1, u1, by rw [List.getElem?_set_ne hij]; exact q1, q2, far _ _ q3, q4⟩

/-- a row of the safe sectors set -/
theorem RefIn.setSafe {W : World} {B r g n c i gi ci : Nat} {wv bv : Value} {R : RS} {s : List UInt8} {cu : Array Value} (h : RefIn W B r (.slice (some ⟨g, 0, none⟩) n c) wv bv R) (hi : i < R.safe.length) (hs : s.length = 64) (hc : 64 ≤ ci) (hb : Blk W gi 5 cu) (ht : cu.toList.take 64 = byts s) (hg : B ≤ g) (hn : n = R.safe.length) :
    RefIn (W.setCell ⟨g, i, none⟩ (.slice (some ⟨gi, 0, none⟩) 64 ci)) B r (.slice (some ⟨g, 0, none⟩) n c) wv bv { R with safe := R.safe.set i s } ∧ TKeep (· == 23) B W (W.setCell ⟨g, i, none⟩ (.slice (some ⟨gi, 0, none⟩) 64 ci)) := by
  obtain ⟨hS1, hS2, hS3, hS4, hS5, hS6, hS7⟩ := h.ok
  have hrow : ∃ cur, Blk W g 23 cur := by
    obtain ⟨xs, ho, _⟩ := h.safe
    rcases ho.2 with ⟨e, _⟩ | ⟨g', cap, cur, hv, hb, hg, _⟩
    · cases e
    · injection hv with h1
      injection h1 with h1
      injection h1 with h1
      subst h1
      exact ⟨cur, hg⟩
  obtain ⟨cur, hgb⟩ := hrow
  have hk : TKeep (· == 23) B W (W.setCell ⟨g, i, none⟩ (.slice (some ⟨gi, 0, none⟩) 64 ci)) := ⟨(Below.refl B W).setCell (p := ⟨g, i, none⟩) hg _, fun q cs t hq hn => hq.far (fun e => Blk.ne_ hq hgb (fun e' => by rw [e'] at hn; simp at hn) (by exact e)) _⟩
  refine ⟨⟨⟨hS1.set hs, fun e he => by show e.1 < (R.safe.set i s).length ∧ _; rw [List.length_set]; exact hS2 e he, by show (R.safe.set i s).length ≤ _; rw [List.length_set]; exact hS3, hS4, hS5, hS6, hS7⟩, h.br, hk.2 _ _ _ h.dev rfl, ?_, h.wait.keep hk rfl rfl, ?_⟩, hk⟩
  · have := h.safe.set (i := i) (gi := gi) (ci := ci) (s := s) hn hi (by rw [hs]; exact hc) hb (by rw [hs]; exact ht)
    rw [hs] at this
    exact this
  · obtain ⟨A, c', e, hr⟩ := h.bad
    exact ⟨A, c', e, hr.below hk.1⟩
theorem RKeep.of23 {B : Nat} {W W' : World} (h : TKeep (· == 23) B W W') : RKeep B W W' := ⟨h.1, fun q cs t hb hn => h.2 q cs t hb (by
  unfold refT at hn
  cases ht : (t == 23) with
  | false => exact ht
  | true => rw [ht] at hn; simp at hn)⟩
theorem OutRows.own_at {W : World} {B n c : Nat} {A : Option Addr} {ls : List (List UInt8)} (h : OutRows W B (.slice A n c) ls) (hp : 0 < ls.length) : ∃ g, A = some ⟨g, 0, none⟩ ∧ B ≤ g ∧ n = ls.length := by
  obtain ⟨xs, ho, _⟩ := h
  rcases ho.2 with ⟨_, h0⟩ | ⟨g, cap, cur, hv, hb, _⟩
  · omega
  · injection hv with h1 h2
    exact ⟨g, h1, hb, h2⟩
theorem OutRows.cell_at {W : World} {B g n c i : Nat} {ls : List (List UInt8)} (h : OutRows W B (.slice (some ⟨g, 0, none⟩) n c) ls) (hi : i < ls.length) : ∃ ov, W.cell? ⟨g, i, none⟩ = some ov ∧ W.frozen? ⟨g, i, none⟩ = false := by
  obtain ⟨xs, ho, _⟩ := h
  rcases ho.2 with ⟨e, _⟩ | ⟨g', cap, cur, hv, hb, hg, hn, hc, hsz, _⟩
  · cases e
  · injection hv with h1
    injection h1 with h1
    injection h1 with h1
    subst h1
    have hbk : Blk W g 23 cur := hg
    exact ⟨cur[i]'(by omega), by rw [hbk.cell]; exact Array.getElem?_eq_getElem (by omega), hbk.frozen _⟩
/-- what waits let go -/
theorem RefIn.clearW {W : World} {B r : Nat} {sv wv bv : Value} {R : RS} (h : RefIn W B r sv wv bv R) :
    RefIn (W.setCell ⟨r, 1, none⟩ (.slice none 0 0)) B r sv (.slice none 0 0) bv { R with wait := [] } ∧ TKeep (· == 95) B W (W.setCell ⟨r, 1, none⟩ (.slice none 0 0)) := by
  obtain ⟨hS1, hS2, hS3, hS4, hS5, hS6, hS7⟩ := h.ok
  have hk : TKeep (· == 95) B W (W.setCell ⟨r, 1, none⟩ (.slice none 0 0)) := ⟨(Below.refl B W).setCell (p := ⟨r, 1, none⟩) h.br _, fun q cs t hb hn => hb.far (fun e => Blk.ne_ hb h.dev (fun e' => by rw [e'] at hn; simp at hn) (by exact e)) _⟩
  refine ⟨⟨⟨hS1, fun e he => absurd he List.not_mem_nil, hS3, Nat.zero_le _, hS5, hS6, hS7⟩, h.br, ?_, h.safe.keep hk rfl rfl, ⟨[], World.ownsRow_nil _ _ _ _, fun i hi => absurd hi (by simp)⟩, ?_⟩, hk⟩
  · have := h.dev.set_ 1 (.slice none 0 0)
    exact this
  · obtain ⟨A, c, e, hr⟩ := h.bad
    exact ⟨A, c, e, hr.below hk.1⟩

set_option maxRecDepth 100000 in
set_option maxHeartbeats 2000000 in
theorem rflush_any (W : World) (B r : Nat) (R : RS) (h : RefAt W B r R) (hn : R.n < 1048576) :
    Calls Tryd.prog 38 #[.pointer (some ⟨r, 0, none⟩)] W fun e W' => e = .returned (.int .i64 (codeR R)) ∧ RefAt W' B r (flushR R) ∧ RKeep B W W' := by
  have HN := hide (rcall_any W B r R h hn)
  clear h
  by_cases hc0 : codeR R = 0
  · have e2 : flushR R = { stepR R with safe := flushQ (stepR R).wait (stepR R).safe, wait := [] } := if_pos hc0
    rw [e2, hc0]
    rw [hc0] at HN
    clear hc0 e2
    generalize stepR R = R1 at *
    go_enter Tryd.func38, Tryd.ntmps38
    go_wp2_with fail
    refine (unhide HN).mono ?_
    rintro e w1 ⟨rfl, ⟨sv, wv, bv, hd⟩, hk⟩
    have HD := hide hd
    have HK := hide (RKeep.of_dev95 hk)
    have hs5 := hd.ok.2.2.1
    have hq5 := hd.ok.2.2.2.1
    obtain ⟨Aw, cw, rfl, _⟩ := hd.wait.form
    obtain ⟨As, cs, rfl, _⟩ := hd.safe.form
    clear hd hk HN
    go_wp2_with fail
    go_loopw [4] (fun i wr => ∃ j : Nat, j ≤ R1.wait.length ∧ i = .int .i64 j ∧ RefIn wr B r (.slice As R1.safe.length cs) (.slice Aw R1.wait.length cw) bv { R1 with safe := flushQ (R1.wait.take j) R1.safe } ∧ RKeep B W wr) (fun i _ => R1.wait.length - (intOf i).toNat)
    case atStart => exact ⟨0, Nat.zero_le _, rfl, HD.out, HK.out⟩
    case round =>
      obtain ⟨j, hj, rfl, hd, hk⟩ := hrel
      have HKJ := hide hk
      have c1 := hd.cells.2.1
      by_cases hlt : j < R1.wait.length
      · obtain ⟨A', c', e', hrw⟩ := hd.wait.form
        obtain ⟨gw, gi, ci, cu, ea, q1, q2, q3, q4, q5⟩ := hrw j hlt
        obtain rfl : Aw = some ⟨gw, 0, none⟩ := by
          injection e' with h1
          rw [h1, ea]
        obtain ⟨ha, hs64⟩ := hd.ok.2.1 R1.wait[j] (List.getElem_mem hlt)
        rw [show ({ R1 with safe := flushQ (R1.wait.take j) R1.safe } : RS).safe.length = R1.safe.length from flushQ_len _ _] at ha
        obtain ⟨gs, rfl, hgs, hzz⟩ := hd.safe.own_at (by
          show 0 < (flushQ _ _).length
          rw [flushQ_len]
          omega)
        clear hzz
        have HIN := hide hd
        have HTK := hide (show flushQ (R1.wait.take (j + 1)) R1.safe = (flushQ (R1.wait.take j) R1.safe).set R1.wait[j].1 R1.wait[j].2 by rw [List.take_succ_eq_append_getElem hlt, flushQ_snoc])
        have HQ := hide (And.intro q3 (And.intro q4 q5))
        rw [Nat.mul_comm 2 j] at q1 q2
        have i1 : (0 : Int) ≤ (j : Int) := by omega
        have i2 : (j : Int) < (R1.wait.length : Int) := by omega
        have HQ1 : Hid (wr.cell? ⟨gw, j * 2, none⟩ = some (.int .i64 (R1.wait[j].1 : Int))) := q1
        have HQ2 : Hid (wr.cell? ⟨gw, j * 2 + 1, none⟩ = some (.slice (some ⟨gi, 0, none⟩) 64 ci)) := q2
        have hg : R1.wait[j].1 < R1.safe.length := ha
        clear hd hk hrw e' ea q1 q2 q3 q4 q5 ha
        generalize R1.wait[j] = e at *
        go_wp2_with fail
        refine region_tail 21 (by kernel_rfl) (by kernel_rfl) ?_
        intro Y hY
        have HBY : Hid (Below wr.heap.size wr Y) := by
          rw [hY]
          exact (Below.refl _ _).drew
        have HIN6 := hide (HIN.out.lift HBY.out)
        have b1 : Y.cell? ⟨gw, j * 2, none⟩ = some (.int .i64 (e.1 : Int)) := by
          rw [hY]
          exact HQ1.out
        have b2 : Y.cell? ⟨gw, j * 2 + 1, none⟩ = some (.slice (some ⟨gi, 0, none⟩) 64 ci) := by
          rw [hY]
          exact HQ2.out
        have HK6 : Hid (RKeep B W Y) := HKJ.out.trans (TKeep.of_below HBY.out (Nat.le_trans HIN.out.br (Nat.le_of_lt HIN.out.dev.lt)))
        have HQY := hide (HQ.out.2.1.below HBY.out HQ.out.2.1.lt)
        have d0 := HIN6.out.cells.1
        have d1 := HIN6.out.cells.2.1
        have HST := hide (HIN6.out.setSafe (i := e.1) (s := e.2) (by
          show e.1 < (flushQ _ _).length
          rw [flushQ_len]
          exact hg) hs64 HQ.out.1 HQY.out HQ.out.2.2 hgs (flushQ_len _ _).symm)
        have z1 : (0 : Int) ≤ (e.1 : Int) := by omega
        have z2 : (e.1 : Int) < (R1.safe.length : Int) := by omega
        have fz : Y.frozen? ⟨gs, e.1, none⟩ = false := by
          obtain ⟨xs, ho, _⟩ := HIN6.out.safe
          rcases ho.2 with ⟨e, _⟩ | ⟨g', cap, cur, hv, hb, hg, _⟩
          · cases e
          · injection hv with h1
            injection h1 with h1
            injection h1 with h1
            subst h1
            exact (show Blk Y gs 23 cur from hg).frozen _
        have cz : ∃ ov, Y.cell? ⟨gs, e.1, none⟩ = some ov := by
          obtain ⟨A2, c2, e2, hr2⟩ := HIN6.out.safe.form
          obtain ⟨gr, cur, e3, hb, hc⟩ := hr2 (by
            show 0 < (flushQ _ _).length
            rw [flushQ_len]
            omega)
          obtain ⟨_, _, _, h1, _⟩ := hc e.1 (by
            show e.1 < (flushQ _ _).length
            rw [flushQ_len]
            exact hg)
          injection e2 with h4
          rw [e3] at h4
          injection h4 with h4
          injection h4 with h4
          subst h4
          exact ⟨_, (hb.cell e.1).trans h1⟩
        obtain ⟨ov, cz⟩ := cz
        clear hY HIN c1
        simp only [List.take_succ_cons, List.take_zero, List.drop_succ_cons, List.drop_zero]
        still_step
        still_step
        still_step
        still_step
        still_step
        still_step
        still_step
        still_step
        still_step
        still_step
        still_step
        still_step
        still_step
        still_step
        still_step
        still_step
        still_step
        still_step
        still_step
        still_step
        still_step
        refine wpStill_nil ?_
        have HST2 := hide (HK6.out.trans (RKeep.of23 HST.out.2))
        have HST1 := hide HST.out.1
        clear HST HK6 HQY
        go_wp2_with fail
        go_roundw
        case rel => exact ⟨j + 1, by omega, by go_num, by rw [HTK.out]; exact HST1.out, HST2.out⟩
        case measure => simp [intOf]; omega
      · obtain rfl : j = R1.wait.length := by omega
        rw [List.take_length] at hd
        have f1 := hd.dev.frozen 1
        have HCL := hide hd.clearW
        clear hd hk
        go_wp2
        go_ret
        exact ⟨rfl, ⟨_, _, _, HCL.out.1⟩, HKJ.out.trans (RKeep.of_dev95 HCL.out.2)⟩
  · have e2 : flushR R = stepR R := if_neg hc0
    have hne : (codeR R != 0) = true := by simpa using hc0
    rw [e2]
    clear hc0 e2
    generalize codeR R = cd at *
    go_enter Tryd.func38, Tryd.ntmps38
    go_wp2_with fail
    refine (unhide HN).mono ?_
    rintro e w1 ⟨rfl, hd, hk⟩
    have HD := hide hd
    have HK := hide hk
    clear hd hk
    go_wp2
    go_ret
    exact ⟨rfl, HD.out, RKeep.of_dev95 HK.out⟩
end Go.Proofs.YtenhjnicadjbaaaDoor
