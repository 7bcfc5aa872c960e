/-
  The walks of outside, of slices.IndexFunc and slices.ContainsFunc over puts, and of found's closure. Conditions: each theorem's own.
-/
import Derived.Test.YtogjdfiimflbaaaJrNew
namespace Go.Proofs.Ytogjdfiimflbaaa
open Go Go.RowKit

set_option maxRecDepth 100000 in
set_option maxHeartbeats 1000000 in
theorem outside_any {W : World} {B g c m : Nat} {N : List (List UInt8)} (h : DevC W B g c N m) (z p : Nat) (hz : z ≤ p) (hp : p < N.length) :
    Calls Try.prog 45 #[.agg (placeC g z), .int .i64 (p : Int)] W fun e W' => e = .returned (.bool true) ∧ Below W.heap.size W W' := by
  have hb : Below W.heap.size W (W.alloc (.cells (placeC g z) 56)) := (Below.refl _ _).alloc (Nat.le_refl _) _
  have HB := hide hb
  have HS := hide (h.lift hb).size_any
  have hl := h.all.2
  have r0 : (W.alloc (.cells (placeC g z) 56)).cell? ⟨W.heap.size, 0, none⟩ = some (.pointer (some ⟨g, 0, none⟩)) := (Blk.new _ _ _).cell 0
  have r1 : (W.alloc (.cells (placeC g z) 56)).cell? ⟨W.heap.size, 1, none⟩ = some (.int .i64 0) := (Blk.new _ _ _).cell 1
  have r2 : (W.alloc (.cells (placeC g z) 56)).cell? ⟨W.heap.size, 2, none⟩ = some (.int .i64 (z : Int)) := (Blk.new _ _ _).cell 2
  have t1 : decide ((p : Int) ≥ 0) = true := decide_eq_true (by omega)
  have t2 : decide ((p : Int) < (N.length : Int)) = true := decide_eq_true (by omega)
  have t3 : decide ((p : Int) < 0) = false := decide_eq_false (by omega)
  have t4 : decide ((p : Int) ≥ 0 + (z : Int)) = true := decide_eq_true (by omega)
  have t5 : decide ((p : Int) ≥ (z : Int)) = true := decide_eq_true (by omega)
  have t6 : decide (p ≥ z) = true := decide_eq_true (by omega)
  have t7 : decide (p < N.length) = true := decide_eq_true (by omega)
  generalize N.length = l at *
  clear h hb
  obtain ⟨w1, hw1⟩ : ∃ w1, W.alloc (.cells (placeC g z) 56) = w1 := ⟨_, rfl⟩
  rw [hw1] at HB HS r0 r1 r2
  go_enter Try.func45, Try.ntmps45
  go_wp2_with (go_at_call 37; refine (unhide HS).mono ?_; rintro e w' ⟨rfl, rfl⟩)
  go_ret
  exact ⟨rfl, HB.out⟩

set_option maxRecDepth 100000 in
set_option maxHeartbeats 1000000 in
theorem foundf_any {W : World} {B g c m : Nat} {N : List (List UInt8)} (h : DevC W B g c N m) {q : Nat} (z p : Nat) (u : Value) (hu : u.oneCell' = true) (hq : Blk W q 56 (placeC g z)) (hz : z ≤ p) (hp : p < N.length) :
    Calls Try.prog 44 #[.agg #[.int .i64 (p : Int), u], .pointer (some ⟨q, 0, none⟩)] W fun e W' => e = .returned (.bool false) ∧ Below W.heap.size W W' := by
  have hb : Below W.heap.size W (W.alloc (.cells #[.int .i64 (p : Int), u] 37)) := (Below.refl _ _).alloc (Nat.le_refl _) _
  have HB := hide hb
  have HO := hide (outside_any (h.lift hb) z p hz hp)
  have hq1 := hq.below hb hq.lt
  have r0 : (W.alloc (.cells #[.int .i64 (p : Int), u] 37)).cell? ⟨W.heap.size, 0, none⟩ = some (.int .i64 (p : Int)) := (Blk.new _ _ _).cell 0
  have q0 : (W.alloc (.cells #[.int .i64 (p : Int), u] 37)).cell? ⟨q, 0, none⟩ = some (.pointer (some ⟨g, 0, none⟩)) := hq1.cell 0
  have q1 : (W.alloc (.cells #[.int .i64 (p : Int), u] 37)).cell? ⟨q, 1, none⟩ = some (.int .i64 0) := hq1.cell 1
  have q2 : (W.alloc (.cells #[.int .i64 (p : Int), u] 37)).cell? ⟨q, 2, none⟩ = some (.int .i64 (z : Int)) := hq1.cell 2
  clear h hb hq hq1
  go_enter Try.func44, Try.ntmps44
  go_wp2_with fail
  refine (unhide HO).mono ?_
  rintro e w' ⟨rfl, hb'⟩
  have HB' : Hid (Below W.heap.size W w') := HB.out.trans (hb'.mono HB.out.size)
  clear hb'
  go_wp2
  go_ret
  exact ⟨rfl, HB'.out⟩

set_option maxRecDepth 100000 in
set_option maxHeartbeats 1000000 in
theorem idx_no {W : World} (xs : List (Nat × Value)) (gr n c : Nat) (hn : n = xs.length) (hl : xs.length ≤ 1000) (f : FuncId) (bound cap : Array Value) (I : World → Prop) (h0 : I W)
    (hR : ∀ (k p : Nat) (u : Value) (w : World), xs[k]? = some (p, u) → I w → w.cell? ⟨gr, k * 2, none⟩ = some (.int .i64 (p : Int)) ∧ w.cell? ⟨gr, k * 2 + 1, none⟩ = some u)
    (hrun : ∀ a w, (callFunc f a).run Try.prog w = .ok (.enter f a) w)
    (hS : ∀ (k p : Nat) (u : Value) (w : World), xs[k]? = some (p, u) → I w → Calls Try.prog f (bound.push (.agg #[.int .i64 (p : Int), u]) ++ cap) w fun e w' => e = .returned (.bool false) ∧ I w') :
    Calls Try.prog 51 #[.slice (some ⟨gr, 0, none⟩) n c, .func (.func f) bound cap] W fun e W' => e = .returned (.int .i64 (-1)) ∧ I W' := by
  subst hn
  have H0 := hide h0
  have HR := hide hR
  have HS := hide hS
  clear h0 hR hS
  go_enter Try.func51, Try.ntmps51
  go_wp2
  go_loopw [8] (fun i wr => ∃ k : Nat, k ≤ xs.length ∧ i = .int .i64 k ∧ I wr) (fun i _ => xs.length - (intOf i).toNat)
  case atStart => exact ⟨0, Nat.zero_le _, rfl, H0.out⟩
  case round =>
    obtain ⟨k, hk, rfl, hi⟩ := hrel
    by_cases hlt : k < xs.length
    · obtain ⟨p, u, hpu⟩ : ∃ p u, xs[k]? = some (p, u) := ⟨xs[k].1, xs[k].2, List.getElem?_eq_getElem hlt⟩
      obtain ⟨r0, r1⟩ := HR.out k p u wr hpu hi
      have HC := hide (HS.out k p u wr hpu hi)
      have i1 : (0 : Int) ≤ (k : Int) := by omega
      have i2 : (k : Int) < (xs.length : Int) := by omega
      clear hi HR HS hpu
      go_wp2_with fail
      refine (unhide HC).mono ?_
      rintro e w' ⟨rfl, hi'⟩
      have HI := hide hi'
      clear hi' HC
      go_wp2
      go_roundw
      case rel => exact ⟨k + 1, by omega, by go_num, HI.out⟩
      case measure => simp [intOf]; omega
    · obtain rfl : k = xs.length := by omega
      have HI := hide hi
      clear hi
      go_wp2
      go_ret
      exact ⟨rfl, HI.out⟩

set_option maxRecDepth 100000 in
set_option maxHeartbeats 1000000 in
theorem cont_no {W : World} (xs : List (Nat × Value)) (gr n c : Nat) (hn : n = xs.length) (hl : xs.length ≤ 1000) (f : FuncId) (bound cap : Array Value) (I : World → Prop) (h0 : I W)
    (hR : ∀ (k p : Nat) (u : Value) (w : World), xs[k]? = some (p, u) → I w → w.cell? ⟨gr, k * 2, none⟩ = some (.int .i64 (p : Int)) ∧ w.cell? ⟨gr, k * 2 + 1, none⟩ = some u)
    (hrun : ∀ a w, (callFunc f a).run Try.prog w = .ok (.enter f a) w)
    (hS : ∀ (k p : Nat) (u : Value) (w : World), xs[k]? = some (p, u) → I w → Calls Try.prog f (bound.push (.agg #[.int .i64 (p : Int), u]) ++ cap) w fun e w' => e = .returned (.bool false) ∧ I w') :
    Calls Try.prog 43 #[.slice (some ⟨gr, 0, none⟩) n c, .func (.func f) bound cap] W fun e W' => e = .returned (.bool false) ∧ I W' := by
  have t : decide ((-1 : Int) ≥ 0) = false := rfl
  have HX := hide (idx_no xs gr n c hn hl f bound cap I h0 hR hrun hS)
  clear hR hrun hS h0 hn hl
  go_enter Try.func43, Try.ntmps43
  go_wp2_with fail
  refine (unhide HX).mono ?_
  rintro e w' ⟨rfl, hi⟩
  have HI := hide hi
  clear hi
  go_wp2
  go_ret
  exact ⟨rfl, HI.out⟩
theorem run_foundf (a : Array Value) (w : World) : (callFunc 44 a).run Try.prog w = .ok (.enter 44 a) w := by go_simp
theorem run_faultf (a : Array Value) (w : World) : (callFunc 46 a).run Try.prog w = .ok (.enter 46 a) w := by go_simp
end Go.Proofs.Ytogjdfiimflbaaa
