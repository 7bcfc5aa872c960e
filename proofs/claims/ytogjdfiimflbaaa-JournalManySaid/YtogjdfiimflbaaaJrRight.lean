/-
  The walks of journal's right, place.write and first. Conditions: each theorem's own.
-/
import Derived.Test.YtogjdfiimflbaaaJrDev
namespace Go.Proofs.Ytogjdfiimflbaaa
open Go Go.RowKit

set_option maxRecDepth 100000 in
set_option maxHeartbeats 400000 in
theorem right_any {W : World} {B g c m : Nat} {N : List (List UInt8)} (h : DevC W B g c N m) (n : Nat) (h1 : 5 ≤ n) (h2 : n ≤ N.length) :
    Calls Try.prog 14 #[.pointer (some ⟨g, 0, none⟩), .int .i64 0, .int .i64 (n : Int)] W fun e W' => e = .returned (.int .i64 0) ∧ W = W' := by
  have HS := hide h.size_any
  have hl := h.all.2
  have t1 : decide ((n : Int) < 5) = false := decide_eq_false (by omega)
  have t2 : decide ((n : Int) > (N.length : Int)) = false := decide_eq_false (by omega)
  have t3 : decide ((0 : Int) > (N.length : Int) - (n : Int)) = false := decide_eq_false (by omega)
  generalize N.length = k at *
  clear h
  go_enter Try.func14, Try.ntmps14
  go_wp2_with (go_at_call 37; refine (unhide HS).mono ?_; rintro e w' ⟨rfl, rfl⟩)
  go_ret
  exact ⟨rfl, rfl⟩

@[reducible] def placeC (g n : Nat) : Array Value := #[.pointer (some ⟨g, 0, none⟩), .int .i64 0, .int .i64 (n : Int)]
set_option maxRecDepth 100000 in
set_option maxHeartbeats 400000 in
theorem pwrite_any {W : World} {B g c m : Nat} {N : List (List UInt8)} (h : DevC W B g c N m) (hB : B ≤ W.heap.size) (hc : c < 1048576) (z : Nat) {a : Nat} {ls : List (List UInt8)} {A : Option Addr} {n k : Nat} (hn : n = ls.length) (ha : a + ls.length ≤ N.length) (hq : m + ls.length ≤ 1048576) (h64 : All64 ls) (hA : RowsBlk W A ls) :
    Calls Try.prog 17 #[.agg (placeC g z), .int .i64 (a : Int), .slice A n k] W fun e W' => e = .returned (.int .i64 0) ∧ DevC W' B g (c + 1) (wsec N a ls) (m + ls.length) ∧ DKeep B W W' := by
  have hl := h.all.2
  have hb : Below W.heap.size W (W.alloc (.cells (placeC g z) 56)) := (Below.refl _ _).alloc (Nat.le_refl _) _
  have HB := hide hb
  have r0 : (W.alloc (.cells (placeC g z) 56)).cell? ⟨W.heap.size, 0, none⟩ = some (.pointer (some ⟨g, 0, none⟩)) := (Blk.new _ _ _).cell 0
  have r1 : (W.alloc (.cells (placeC g z) 56)).cell? ⟨W.heap.size, 1, none⟩ = some (.int .i64 0) := (Blk.new _ _ _).cell 1
  have h' := h.lift hb
  have hA' := hA.below hb
  have HW := hide (h'.write hc hn ha hq h64 hA' (n := n) (k := k))
  clear h' hA'
  have hal : a ≤ 65536 := by omega
  clear hb h hA h64 hq ha hl hc hn
  obtain ⟨w1, hw1⟩ : ∃ w1, W.alloc (.cells (placeC g z) 56) = w1 := ⟨_, rfl⟩
  rw [hw1] at HB r0 r1 HW
  go_enter Try.func17, Try.ntmps17
  go_wp2_with fail
  refine (unhide HW).mono ?_
  rintro e w' ⟨rfl, hd, hk⟩
  have HD := hide hd
  have HK : Hid (DKeep B W w') := (DKeep.of_below HB.out hB).trans hk
  clear hd hk
  go_wp2
  go_ret
  exact ⟨rfl, HD.out, HK.out⟩

/-- a function value that is called with nothing -/
inductive Fn0 (v : Value) (w : World) (Q : Ending → World → Prop) : Prop where
  | mk (f : FuncId) (bound cap : Array Value) (e : v = .func (.func f) bound cap) (hr : (callFunc f (bound ++ cap)).run Try.prog w = .ok (.enter f (bound ++ cap)) w) (h : Calls Try.prog f (bound ++ cap) w Q) : Fn0 v w Q
set_option maxRecDepth 100000 in
set_option maxHeartbeats 400000 in
theorem first_any (fs : List Value) (A : Option Addr) (n c : Nat) (hn : n = fs.length) (hl : fs.length ≤ 1000) (I : Nat → World → Prop) (W : World) (h0 : I 0 W) (hR : ∀ k w, I k w → Reads w w.heap.size 1 A fs.length fs)
    (hS : ∀ k (hk : k < fs.length) w, I k w → Fn0 fs[k] w fun e w' => e = .returned (.int .i64 0) ∧ I (k + 1) w') :
    Calls Try.prog 20 #[.slice A n c] W fun e W' => e = .returned (.int .i64 0) ∧ I fs.length W' := by
  subst hn
  have H0 := hide h0
  have HR := hide hR
  have HS := hide hS
  clear h0 hR hS
  go_enter Try.func20, Try.ntmps20
  go_wp2
  go_loopw [8] (fun i wr => ∃ k : Nat, k ≤ fs.length ∧ i = .int .i64 k ∧ I k wr) (fun i _ => fs.length - (intOf i).toNat)
  case atStart => exact ⟨0, Nat.zero_le _, rfl, H0.out⟩
  case round =>
    obtain ⟨k, hk, rfl, hi⟩ := hrel
    by_cases hlt : k < fs.length
    · obtain ⟨ad, u, rfl, hp, hu, q1⟩ := (HR.out k wr hi).at_ hlt
      rw [List.getElem?_eq_getElem hlt] at hu
      injection hu with hu
      subst hu
      obtain ⟨f, bound, cap, he, hrun, hcall⟩ := HS.out k hlt wr hi
      rw [he] at q1
      have HC := hide hcall
      clear he hcall hi HR HS
      have i1 : (0 : Int) ≤ (k : Int) := by omega
      have i2 : (k : Int) < (fs.length : Int) := by omega
      go_wp2_with fail
      refine (unhide HC).mono ?_
      rintro e w' ⟨rfl, hi'⟩
      have HI := hide hi'
      clear hi' hrun HC
      go_wp2
      go_roundw
      case rel => exact ⟨k + 1, by omega, by go_num, HI.out⟩
      case measure => simp [intOf]; omega
    · obtain rfl : k = fs.length := by omega
      have HI := hide hi
      clear hi
      go_wp2
      go_ret
      exact ⟨rfl, HI.out⟩
end Go.Proofs.Ytogjdfiimflbaaa
