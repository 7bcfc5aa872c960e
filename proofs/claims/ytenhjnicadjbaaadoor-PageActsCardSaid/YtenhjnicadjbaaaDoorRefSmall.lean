/-
  The reference device's Read in every case, Fail, Flush. Condition: it lies as its state says.
-/
import Derived.Test.YtenhjnicadjbaaaDoorRefSee
import Derived.Test.YtenhjnicadjbaaaDoorTail
namespace Go.Proofs.YtenhjnicadjbaaaDoor
open Go Go.RowKit

theorem RKeep.of_dev95 {B : Nat} {W W' : World} (h : TKeep (· == 95) B W W') : RKeep B W W' := ⟨h.1, fun q cs t hb hn => h.2 q cs t hb (by
  unfold refT at hn
  cases ht : (t == 95) with
  | false => exact ht
  | true => rw [ht] at hn; simp at hn)⟩

set_option maxRecDepth 100000 in
set_option maxHeartbeats 1000000 in
theorem rread_any (W : World) (B r : Nat) (R : RS) (h : RefAt W B r R) (hn : R.n < 1048576) (at_ n : Int) (hn2 : n ≤ 1099511627776) (h64 : All64 (nowR R)) :
    Calls Tryd.prog 35 #[.pointer (some ⟨r, 0, none⟩), .int .i64 at_, .int .i64 n] W fun e W' => ∃ A c, e = .returned (.tuple #[.slice A (readLR R at_ n).length c, .int .i64 (readCodeR R at_ n)]) ∧ RowsBlk W' A (readLR R at_ n) ∧ RefAt W' B r (readRS R at_ n) ∧ RKeep B W W' := by
  have HT := hide (rthere_any W B r R h at_ n hn2)
  cases htb : thereR R at_ n with
  | false =>
    have e1 : readCodeR R at_ n = 2 := by unfold readCodeR; rw [htb]; rfl
    have e2 : readRS R at_ n = R := by unfold readRS; rw [htb]; rfl
    have e3 : readLR R at_ n = [] := by unfold readLR; rw [e1]; rfl
    rw [e1, e2, e3]
    rw [htb] at HT
    have HD := hide h
    clear h htb e1 e2 e3
    go_enter Tryd.func35, Tryd.ntmps35
    go_wp2_with fail
    refine (unhide HT).mono ?_
    rintro e w' ⟨rfl, rfl⟩
    go_wp2
    go_ret2
    exact ⟨none, 0, rfl, fun hp => absurd hp (by simp), HD.out, TKeep.refl _ _ _⟩
  | true =>
    have hth := of_decide_eq_true htb
    by_cases hc0 : codeR R = 0
    · obtain ⟨a, rfl⟩ : ∃ a : Nat, at_ = a := ⟨at_.toNat, by omega⟩
      obtain ⟨m, rfl⟩ : ∃ m : Nat, n = m := ⟨n.toNat, by omega⟩
      have e1 : readCodeR R a m = 0 := by unfold readCodeR; rw [htb]; exact hc0
      have e2 : readRS R a m = stepR R := by unfold readRS; rw [htb]; rfl
      have e3 : readLR R a m = ((nowR R).drop a).take m := by unfold readLR; rw [if_pos e1]; rfl
      have hlen : (((nowR R).drop a).take m).length = m := by
        rw [List.length_take, List.length_drop, nowR_len]
        omega
      rw [e1, e2, e3, hlen]
      exact rread_ok W B r R h hn a m (by omega) hc0 h64
    · have e1 : readCodeR R at_ n = codeR R := by unfold readCodeR; rw [htb]; rfl
      have e2 : readRS R at_ n = stepR R := by unfold readRS; rw [htb]; rfl
      have e3 : readLR R at_ n = [] := by unfold readLR; rw [e1, if_neg hc0]
      have hne : (codeR R != 0) = true := by simpa using hc0
      rw [e1, e2, e3]
      rw [htb] at HT
      have HN := hide (rcall_any W B r R h hn)
      clear h htb e1 e2 e3 hc0 hth
      generalize codeR R = cd at *
      go_enter Tryd.func35, Tryd.ntmps35
      go_wp2_with fail
      refine (unhide HT).mono ?_
      rintro e w' ⟨rfl, rfl⟩
      go_wp2_with fail
      refine (unhide HN).mono ?_
      rintro e w1 ⟨rfl, hd, hk⟩
      have HD := hide hd
      have HK := hide hk
      clear hd hk
      go_wp2
      go_ret2
      exact ⟨none, 0, rfl, fun hp => absurd hp (by simp), HD.out, RKeep.of_dev95 HK.out⟩

set_option maxRecDepth 100000 in
set_option maxHeartbeats 400000 in
theorem rfail_any (W : World) (B r : Nat) (R : RS) (h : RefAt W B r R) (l : List Int) (A : Option Addr) (n c : Nat) (hn : n = l.length) (hl : l.length ≤ 1048576) (hA : Reads W B 1 A n (ints l)) :
    Calls Tryd.prog 40 #[.pointer (some ⟨r, 0, none⟩), .slice A n c] W fun e W' => e = .returned (.tuple #[]) ∧ RefAt W' B r { R with n := 0, bad := l } ∧ RKeep B W W' := by
  subst hn
  obtain ⟨sv, wv, bv, h⟩ := h
  obtain ⟨hS1, hS2, hS3, hS4, hS5, hS6, hS7⟩ := h.ok
  obtain ⟨h1, k1⟩ := h.put (R' := { R with n := 0 }) ⟨hS1, hS2, hS3, hS4, hS5, by show (0 : Int) ≤ 0; omega, by show (0 : Int) ≤ _; omega⟩ rfl rfl rfl 2 (.int .i64 0) rfl
  have r2 := h.cells.2.2.1
  have f2 := h.dev.frozen 2
  have r3 := h1.cells.2.2.2.1
  have f3 := h1.dev.frozen 3
  have HX : Hid (RefIn ((W.setCell ⟨r, 2, none⟩ (.int .i64 0)).setCell ⟨r, 3, none⟩ (.slice A l.length c)) B r sv wv (.slice A l.length c) { R with n := 0, bad := l } ∧ TKeep (· == 95) B W ((W.setCell ⟨r, 2, none⟩ (.int .i64 0)).setCell ⟨r, 3, none⟩ (.slice A l.length c))) := by
    have k2 : TKeep (· == 95) B (W.setCell ⟨r, 2, none⟩ (.int .i64 0)) ((W.setCell ⟨r, 2, none⟩ (.int .i64 0)).setCell ⟨r, 3, none⟩ (.slice A l.length c)) := ⟨(Below.refl B _).setCell (p := ⟨r, 3, none⟩) h.br _, fun q cs t hb hn => hb.far (fun e => Blk.ne_ hb h1.dev (fun e' => by rw [e'] at hn; simp at hn) (by exact e)) _⟩
    refine ⟨⟨⟨hS1, hS2, hS3, hS4, hl, by show (0 : Int) ≤ 0; omega, by show (0 : Int) ≤ _; omega⟩, h.br, ?_, h1.safe.keep k2 rfl rfl, h1.wait.keep k2 rfl rfl, ⟨A, c, rfl, hA.below (k1.trans k2).1⟩⟩, k1.trans k2⟩
    have := h1.dev.set_ 3 (.slice A l.length c)
    exact this
  clear h h1 k1 hA hS1 hS2 hS3 hS4 hS5 hS6 hS7
  go_enter Tryd.func40, Tryd.ntmps40
  go_wp2
  go_end0
  exact ⟨rfl, ⟨sv, wv, _, HX.out.1⟩, RKeep.of_dev95 HX.out.2⟩
end Go.Proofs.YtenhjnicadjbaaaDoor
