/-
  The walks of Number and of the document's Same. Conditions: the journal lies so; the two read alike.
-/
import Derived.Test.YtogjdfiimflbaaaJrBegin
namespace Go.Proofs.Ytogjdfiimflbaaa
open Go Go.RowKit

set_option maxRecDepth 100000 in
theorem number_j {W : World} {B T j g : Nat} {J : JS} (h : JAt W B T j g J) :
    Calls Try.prog 10 #[.pointer (some ⟨j, 0, none⟩)] W fun e W' => e = .returned (.int .i64 (J.next : Int)) ∧ W = W' := by
  obtain ⟨_, _, _, hb⟩ := h.cells
  have r6 : W.cell? ⟨j, 6, none⟩ = some (.int .i64 (J.next : Int)) := hb.cell 6
  clear h hb
  go_enter Try.func10, Try.ntmps10
  go_wp2
  go_ret
  exact ⟨rfl, rfl⟩

set_option maxRecDepth 100000 in
set_option maxHeartbeats 1000000 in
theorem same_any {W : World} {ga gb n c1 c2 : Nat} {ls : List (List UInt8)} (h1 : RowsBlk W (some ⟨ga, 0, none⟩) ls) (h2 : RowsBlk W (some ⟨gb, 0, none⟩) ls) (hn : n = ls.length) (hl : ls.length ≤ 65536) :
    Calls Try.prog 13 #[.slice (some ⟨ga, 0, none⟩) n c1, .slice (some ⟨gb, 0, none⟩) n c2] W fun e W' => e = .returned (.bool true) ∧ Below W.heap.size W W' := by
  have H1 := hide h1
  have H2 := hide h2
  have HN := hide hn
  have hl2 : n ≤ 65536 := by omega
  have HBE : Hid (Below W.heap.size W W) := Below.refl _ _
  clear h1 h2 hn hl
  go_enter Try.func13, Try.ntmps13
  go_wp2
  go_loopw [5] (fun i wr => ∃ k : Nat, k ≤ n ∧ i = .int .i64 k ∧ Below W.heap.size W wr) (fun i _ => n - (intOf i).toNat)
  case atStart => exact ⟨0, Nat.zero_le _, rfl, HBE.out⟩
  case round =>
    clear HBE
    obtain ⟨k, hk, rfl, hbe⟩ := hrel
    have HBR := hide hbe
    clear hbe
    by_cases hlt : k < n
    · obtain ⟨b, hb⟩ : ∃ b, ls[k]? = some b := ⟨_, List.getElem?_eq_getElem (by rw [← HN.out]; exact hlt)⟩
      obtain ⟨ga', gi, ci, e, hci, _, hxa⟩ := rows_at (H1.out.below HBR.out) hb
      injection e with e
      injection e with e
      subst e
      obtain ⟨gb', gj, cj, e, hcj, _, hxb⟩ := rows_at (H2.out.below HBR.out) hb
      injection e with e
      injection e with e
      subst e
      have HCA : Hid (∀ X, Below wr.heap.size wr X → X.cell? ⟨ga, k, none⟩ = some (.slice (some ⟨gi, 0, none⟩) b.length ci)) := fun X hX => (hxa X hX).1
      have HCB : Hid (∀ X, Below wr.heap.size wr X → X.cell? ⟨gb, k, none⟩ = some (.slice (some ⟨gj, 0, none⟩) b.length cj)) := fun X hX => (hxb X hX).1
      have HC1 : Hid (∀ X, Below wr.heap.size wr X → (convert 22 9 (.slice (some ⟨gi, 0, none⟩) b.length ci)).run Try.prog X = .ok (.string (strOf b)) X) := fun X hX => conv_str b.length ci rfl (hxa X hX).2
      have HC2 : Hid (∀ X, Below wr.heap.size wr X → (convert 22 9 (.slice (some ⟨gj, 0, none⟩) b.length cj)).run Try.prog X = .ok (.string (strOf b)) X) := fun X hX => conv_str b.length cj rfl (hxb X hX).2
      have i1 : (0 : Int) ≤ (k : Int) := by omega
      have i2 : (k : Int) < (n : Int) := by omega
      clear hxa hxb hb
      go_wp2_with fail
      refine wp_region_assert (listV [isV (.slice (some ⟨ga, 0, none⟩) n c1), isV (.int .i64 (k : Int)), isV (.pointer (some ⟨ga, k, none⟩)), isV (.slice (some ⟨gi, 0, none⟩) b.length ci), isV (.string (strOf b)), isV (.slice (some ⟨gb, 0, none⟩) n c2), isV (.int .i64 (k : Int)), isV (.pointer (some ⟨gb, k, none⟩)), isV (.slice (some ⟨gj, 0, none⟩) b.length cj), isV (.string (strOf b)), isV (.bool false)]) (by kernel_rfl) (by kernel_rfl) (listV_stable ?_) ?_ ?_
      · exact ⟨isV_stable _, isV_stable _, isV_stable _, isV_stable _, isV_stable _, isV_stable _, isV_stable _, isV_stable _, isV_stable _, isV_stable _, isV_stable _, trivial⟩
      refine ⟨fun vs wk hbk hd => ?_, fun vs wk hbk hd => ?_, fun vs wk hbk hd => ?_, fun vs wk hbk hd => ?_, fun vs wk hbk hd => ?_, fun vs wk hbk hd => ?_, fun vs wk hbk hd => ?_, fun vs wk hbk hd => ?_, fun vs wk hbk hd => ?_, fun vs wk hbk hd => ?_, fun vs wk hbk hd => ?_, trivial⟩
      -- 0: Op.move t0
      · clear hd
        go_wp2
        exact ⟨rfl, rfl, rfl, Below.refl _ _⟩
      -- 1: Op.move t5
      · simp only [Act.put, List.setIfInBounds_toArray, List.set_cons_zero, List.set_cons_succ]
        clear hd
        go_wp2
        exact ⟨rfl, rfl, rfl, Below.refl _ _⟩
      -- 2: Op.indexAddr 43 t17 t18
      · simp only [Act.put, List.setIfInBounds_toArray, List.set_cons_zero, List.set_cons_succ, Nat.reduceAdd]
        have e0 : vs 0 = .slice (some ⟨ga, 0, none⟩) n c1 := hd 0 (by kernel_rfl)
        have e1 : vs 1 = .int .i64 (k : Int) := hd 1 (by kernel_rfl)
        clear hd
        go_wp2
        first | exact ⟨rfl, rfl, rfl, Below.refl _ _⟩ | exact ⟨rfl, rfl, e1, Below.refl _ _⟩ | exact ⟨rfl, rfl, e0, Below.refl _ _⟩
      -- 3: Op.load 22 t19
      · simp only [Act.put, List.setIfInBounds_toArray, List.set_cons_zero, List.set_cons_succ, Nat.reduceAdd]
        have e2 : vs 2 = .pointer (some ⟨ga, k, none⟩) := hd 2 (by kernel_rfl)
        have r1 := HCA.out wk (undrew hbk)
        clear hd
        go_wp2
        first | exact ⟨rfl, rfl, rfl, Below.refl _ _⟩ | exact ⟨rfl, rfl, e2, Below.refl _ _⟩
      -- 4: Op.convert 22 9 t20
      · simp only [Act.put, List.setIfInBounds_toArray, List.set_cons_zero, List.set_cons_succ, Nat.reduceAdd]
        have e3 : vs 3 = .slice (some ⟨gi, 0, none⟩) b.length ci := hd 3 (by kernel_rfl)
        have s1 := HC1.out wk (undrew hbk)
        clear hd
        go_wp2
        first | exact ⟨rfl, rfl, rfl, Below.refl _ _⟩ | exact ⟨rfl, rfl, e3, Below.refl _ _⟩
      -- 5: Op.move t1
      · simp only [Act.put, List.setIfInBounds_toArray, List.set_cons_zero, List.set_cons_succ, Nat.reduceAdd]
        clear hd
        go_wp2
        exact ⟨rfl, rfl, rfl, Below.refl _ _⟩
      -- 6: Op.move t5
      · simp only [Act.put, List.setIfInBounds_toArray, List.set_cons_zero, List.set_cons_succ, Nat.reduceAdd]
        clear hd
        go_wp2
        exact ⟨rfl, rfl, rfl, Below.refl _ _⟩
      -- 7: Op.indexAddr 43 t22 t23
      · simp only [Act.put, List.setIfInBounds_toArray, List.set_cons_zero, List.set_cons_succ, Nat.reduceAdd]
        have e5 : vs 5 = .slice (some ⟨gb, 0, none⟩) n c2 := hd 5 (by kernel_rfl)
        have e6 : vs 6 = .int .i64 (k : Int) := hd 6 (by kernel_rfl)
        clear hd
        go_wp2
        first | exact ⟨rfl, rfl, rfl, Below.refl _ _⟩ | exact ⟨rfl, rfl, e6, Below.refl _ _⟩ | exact ⟨rfl, rfl, e5, Below.refl _ _⟩
      -- 8: Op.load 22 t24
      · simp only [Act.put, List.setIfInBounds_toArray, List.set_cons_zero, List.set_cons_succ, Nat.reduceAdd]
        have e7 : vs 7 = .pointer (some ⟨gb, k, none⟩) := hd 7 (by kernel_rfl)
        have r1 := HCB.out wk (undrew hbk)
        clear hd
        go_wp2
        first | exact ⟨rfl, rfl, rfl, Below.refl _ _⟩ | exact ⟨rfl, rfl, e7, Below.refl _ _⟩
      -- 9: Op.convert 22 9 t25
      · simp only [Act.put, List.setIfInBounds_toArray, List.set_cons_zero, List.set_cons_succ, Nat.reduceAdd]
        have e8 : vs 8 = .slice (some ⟨gj, 0, none⟩) b.length cj := hd 8 (by kernel_rfl)
        have s1 := HC2.out wk (undrew hbk)
        clear hd
        go_wp2
        first | exact ⟨rfl, rfl, rfl, Below.refl _ _⟩ | exact ⟨rfl, rfl, e8, Below.refl _ _⟩
      -- 10: Op.binOp BinOp.neq 9 t21 t26 9
      · simp only [Act.put, List.setIfInBounds_toArray, List.set_cons_zero, List.set_cons_succ, Nat.reduceAdd]
        have e4 : vs 4 = .string (strOf b) := hd 4 (by kernel_rfl)
        have e9 : vs 9 = .string (strOf b) := hd 9 (by kernel_rfl)
        have s1 : ((strOf b).toList == (strOf b).toList) = true := by simp
        clear hd
        go_wp2
        first | exact ⟨rfl, rfl, rfl, Below.refl _ _⟩ | exact ⟨rfl, rfl, e9, Below.refl _ _⟩ | exact ⟨rfl, rfl, e4, Below.refl _ _⟩
      intro vs wk hbk hd
      simp only [putAll, Act.put, List.setIfInBounds_toArray, List.set_cons_zero, List.set_cons_succ, Nat.reduceAdd]
      have e10 : vs 10 = .bool false := hd 10 (by decide)
      clear hd
      simp only [e10]
      clear e10
      have HBK : Hid (Below W.heap.size W wk) := HBR.out.trans ((undrew hbk).mono HBR.out.size)
      clear hbk HCA HCB HC1 HC2
      go_wp2
      go_roundw
      case rel => exact ⟨k + 1, by omega, by go_num, HBK.out⟩
      case measure => simp [intOf]; omega
    · obtain rfl : k = n := by omega
      go_wp2
      go_ret
      exact ⟨rfl, HBR.out⟩
end Go.Proofs.Ytogjdfiimflbaaa
