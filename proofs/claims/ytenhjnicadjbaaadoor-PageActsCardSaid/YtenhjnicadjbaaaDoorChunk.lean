/-
  slices.Chunk at []byte as an iterator. Conditions: the slice reads as a list of bytes, pieces of 64.
-/
import Derived.Test.YtenhjnicadjbaaaDoorPack
import Derived.RangeFuncNested
import Derived.RangeFuncBound
import Derived.RangeFuncCalls
import Derived.RangeFuncLeaves
import Derived.RangeFuncBox
import Derived.Shelf.Abstract
import Derived.Shelf.RegionOpen
import Derived.OwnWalkIn
import Derived.TacticsInMore
import Derived.LoopNIn
import Derived.LoopIn
import Derived.Maps.AppendAt
import Derived.Deep.WholeRow
import Derived.Sort.QuietIn
import Derived.Laws.CopyRow
namespace Go.Proofs.YtenhjnicadjbaaaDoor
open Go Go.RowKit Go.Shelf
attribute [local go_sem] Oper.semAt_some

set_option maxRecDepth 100000 in
set_option maxHeartbeats 1000000 in
theorem chunk_in (F : Fence) (n : Nat) (h47 : F.fn 47) (hro : F.round = none) (A : Option Addr) (m c : Nat) (w : World) :
    CallsIn F n Tryd.prog 47 #[.slice A m c, .int .i64 64] w fun e w' =>
      e = .returned (.func (.func 61) #[] #[.pointer (some ⟨w.heap.size, 0, none⟩), .pointer (some ⟨w.heap.size + 1, 0, none⟩)]) ∧ w' = (w.alloc (.cells #[.slice A m c] 23)).alloc (.cells #[.int .i64 64] 3) := by
  refine callsIn_of_wp Tryd.func47 rfl h47 ?_ hro
  simp only [Tryd.ntmps47, List.size_toArray, List.length_cons, List.length_nil, Nat.reduceAdd, Nat.reduceSub, Array.replicate_succ, Array.replicate_zero, List.push_toArray, List.append_toArray, List.nil_append, List.cons_append]
  gi_wp2
  go_ret
  exact ⟨rfl, rfl⟩

/-- the value of piece k -/
def pieceV (A : Option Addr) (m k : Nat) : Value := .slice (A.map (·.add (64 * k))) (min 64 (m - 64 * k)) (min 64 (m - 64 * k))

theorem min64 (a : Nat) (ts : Array TypeId) (t : TypeId) (W : World) : (Builtin.min_ ts t #[.int .i64 64, .int .i64 (a : Int)]).run Tryd.prog W = .ok (.int .i64 ((min 64 a : Nat) : Int)) W := by
  rw [run_min_int2]
  congr 2
  split <;> omega
theorem cut_three (A : Option Addr) (n c i e : Nat) (he : 0 < e) (hc : i + e ≤ c) (w : World) :
    (Instr.slice 23 (.slice A n c) (some (.int .i64 (i : Int))) (some (.int .i64 ((i : Int) + (e : Int)))) (some (.int .i64 ((i : Int) + (e : Int))))).run Tryd.prog w = .ok (.slice (A.map (·.add i)) e e) w := by
  have ht : Tryd.prog.underlying 23 = some (.slice (Tryd.prog.elem 23)) := by kernel_rfl
  rw [run_slice_lhm w 23 A n c ht .i64 .i64 .i64 i (i + e) (i + e) (by omega) (by omega) (by omega) (by omega)]
  have hs : ((Tryd.prog.info? (Tryd.prog.elem 23)).map (·.size)) = some 1 := by kernel_rfl
  obtain ⟨q, hq, hz⟩ := Option.map_eq_some_iff.1 hs
  have e1 : ((i : Int) + (e : Int)).toNat = i + e := by omega
  have e3 : i + e - i = e := by omega
  simp [sizeOf, typeInfo, hq, sliced, hz, e1, e3]
  exact fun h => absurd h (by omega)

set_option maxRecDepth 100000 in
set_option maxHeartbeats 2000000 in
theorem chunk1_in (n : Nat) (hn : 1 ≤ n) (l Bs Bn m c : Nat) (A : Option Addr) (Kp : World → World → Prop) (hm : m ≤ 1099511627776) (hmc : m ≤ c) (hKc : ∀ X Y, Kp X Y → ∀ v, (X.cell? ⟨Bs, 0, none⟩ = some v → Y.cell? ⟨Bs, 0, none⟩ = some v) ∧ (X.cell? ⟨Bn, 0, none⟩ = some v → Y.cell? ⟨Bn, 0, none⟩ = some v)) (J Jx : List Nat → World → Prop) (hJd : ∀ s X m, J s X → J s (X.drewN m))
    (hY : ∀ pre x W, J pre W → pre.length < (m + 63) / 64 → YieldAt Fence.wide (n - 1) Tryd.prog l #[pieceV A m x] W fun e W' =>
      (e = .returned (.bool true) ∧ J (pre ++ [x]) W' ∧ Kp W W') ∨ (e = .returned (.bool false) ∧ Jx (pre ++ [x]) W'))
    (W : World) (hBs : W.cell? ⟨Bs, 0, none⟩ = some (.slice A m c)) (hBn : W.cell? ⟨Bn, 0, none⟩ = some (.int .i64 64)) (h0 : J [] W) :
    CallsIn Fence.wide n Tryd.prog 61 #[.func (.yield l) #[] #[], .pointer (some ⟨Bs, 0, none⟩), .pointer (some ⟨Bn, 0, none⟩)] W fun e W' => (∃ v, e = .returned v) ∧
      ((∃ ys, ys = List.range ((m + 63) / 64) ∧ J ys W') ∨ (∃ pre, True ∧ Jx pre W')) := by
  refine callsIn_of_wp Tryd.func61 rfl trivial ?_ rfl
  simp only [Tryd.ntmps61, List.size_toArray, List.length_cons, List.length_nil, Nat.reduceAdd, Nat.reduceSub, Array.replicate_succ, Array.replicate_zero, List.push_toArray, List.append_toArray, List.nil_append, List.cons_append]
  gi_wp2
  gi_loopw [4] (fun i wr => ∃ k : Nat, k ≤ (m + 63) / 64 ∧ i = .int .i64 ((64 * k : Nat) : Int) ∧ J (List.range k) wr ∧ wr.cell? ⟨Bs, 0, none⟩ = some (.slice A m c) ∧ wr.cell? ⟨Bn, 0, none⟩ = some (.int .i64 64))
    (fun i _ => (m + 63) - (intOf i).toNat)
  case atStart => exact ⟨0, Nat.zero_le _, rfl, h0, hBs, hBn⟩
  case round =>
    obtain ⟨k, hk, rfl, hJs, c1, c2⟩ := hrel
    by_cases hlt : 64 * k < m
    · have HY := fun q => hY _ k (wr.drewN q) (hJd _ _ q hJs) (by rw [List.length_range]; omega)
      have q1 := fun W' => cut_back8 A m c (64 * k) (by omega) W'
      have q2 := min64 (m - 64 * k)
      have q3 := fun W' => cut_three A m c (64 * k) (min 64 (m - 64 * k)) (by omega) (by omega) W'
      have t1 : decide (((64 * k : Nat) : Int) < (m : Int)) = true := decide_eq_true (by omega)
      unfold pieceV at HY
      have he64 : min 64 (m - 64 * k) ≤ 64 := by omega
      generalize min 64 (m - 64 * k) = e at *
      have HK := hide (show k + 1 ≤ (m + 63) / 64 by omega)
      generalize hi : 64 * k = i at *
      have HI := hide hi
      have h5 : ((i : Nat) : Int) < 1099511627776 := by omega
      have h6 : (0 : Int) ≤ (i : Int) := by omega
      clear hi
      have HY2 := hide HY
      have HKC := hide hKc
      clear hY HY hBs hBn h0 hJs hKc
      gi_wp2
      gi_quiet (fail)
      obtain ⟨fn, tmps, assign, body, hy, hR⟩ := HY2.out nq
      have c1' : (wr.drewN nq).cell? ⟨Bs, 0, none⟩ = _ := c1
      have c2' : (wr.drewN nq).cell? ⟨Bn, 0, none⟩ = _ := c2
      gi_wp2
      refine hR.mono ?_
      rintro e W3 (⟨rfl, hJ3, hk3⟩ | ⟨rfl, hJx3⟩)
      · have c3 : W3.cell? ⟨Bn, 0, none⟩ = _ := (HKC.out _ _ hk3 _).2 c2'
        have c4 : W3.cell? ⟨Bs, 0, none⟩ = _ := (HKC.out _ _ hk3 _).1 c1'
        have HJ3 := hide hJ3
        have hi2 := HI.out
        clear hJ3 hk3 hR hy HY2
        gi_wp2
        go_roundw
        case rel => exact ⟨k + 1, HK.out, by go_num, by rw [List.range_succ]; exact HJ3.out, c4, c3⟩
        case measure => simp [intOf]; omega
      · gi_wp2
        refine bodyPost_ret (results_none rfl _ _ _) rfl ?_
        exact ⟨⟨_, rfl⟩, .inr ⟨_, trivial, hJx3⟩⟩
    · obtain rfl : k = (m + 63) / 64 := by omega
      have t1 : decide (((64 * ((m + 63) / 64) : Nat) : Int) < (m : Int)) = false := decide_eq_false (by omega)
      have HJS := hide hJs
      clear hJs hY h0
      generalize ((64 * ((m + 63) / 64) : Nat) : Int) = i at *
      gi_wp2
      go_end0
      exact ⟨⟨_, rfl⟩, .inl ⟨_, rfl, HJS.out⟩⟩

theorem grown_drewN (W : World) (m : Nat) : W.grownBy (W.drewN m) none := only_drewN (World.grownBy.refl W none) m
theorem chunk_stops (n : Nat) (hn : 1 ≤ n) (Bs Bn m c : Nat) (A : Option Addr) (Kp : World → World → Prop) (w : World) (hm : m ≤ 1099511627776) (hmc : m ≤ c)
    (hKc : ∀ X Y, Kp X Y → ∀ v, (X.cell? ⟨Bs, 0, none⟩ = some v → Y.cell? ⟨Bs, 0, none⟩ = some v) ∧ (X.cell? ⟨Bn, 0, none⟩ = some v → Y.cell? ⟨Bn, 0, none⟩ = some v))
    (hBs : w.cell? ⟨Bs, 0, none⟩ = some (.slice A m c)) (hBn : w.cell? ⟨Bn, 0, none⟩ = some (.int .i64 64)) :
    SeqStopsK Fence.wide n Tryd.prog 61 #[.pointer (some ⟨Bs, 0, none⟩), .pointer (some ⟨Bn, 0, none⟩)] (fun x : Nat => #[pieceV A m x]) Kp (fun ys => ys = List.range ((m + 63) / 64)) (fun _ => True) ((m + 63) / 64) w := fun l J Jx W hW hJ _ hY h0 =>
  chunk1_in n hn l Bs Bn m c A Kp hm hmc hKc J Jx (fun s X q hs => hJ s X _ none hs (grown_drewN X q) (fun r h => by cases h)) hY W
    ((hW.cell (p := ⟨Bs, 0, none⟩) (World.block_lt_of_cell? w _ hBs)).trans hBs) ((hW.cell (p := ⟨Bn, 0, none⟩) (World.block_lt_of_cell? w _ hBn)).trans hBn) h0
end Go.Proofs.YtenhjnicadjbaaaDoor
