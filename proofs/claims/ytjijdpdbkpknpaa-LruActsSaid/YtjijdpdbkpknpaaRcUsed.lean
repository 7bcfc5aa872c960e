/-
  The walk of the document's Used. Condition: the cache lies as its state says.
-/
import Derived.Test.YtjijdpdbkpknpaaRcCalls
namespace Go.Proofs.Ytjijdpdbkpknpaa
open Go Go.RowKit

set_option maxRecDepth 100000 in
set_option maxHeartbeats 1000000 in
theorem rused_any {W : World} {M : Nat → Prop} {B g : Nat} {S : CS} (H : RefAt W M B g S) :
    Calls Try.prog 28 #[.pointer (some ⟨g, 0, none⟩)] W fun e W' => e = .returned (.int .i64 ((sumC S.trial + sumC S.rest : Nat) : Int)) ∧ Below W.heap.size W W' := by
  obtain ⟨vt, vr, Xt, Xr, h⟩ := H
  have hsum := CS.sum_le h.ok
  have HC2 : Hid (∀ x, Below W.heap.size W x → x.cell? ⟨g, 2, none⟩ = some vt) := fun x hx => (h.lift hx).blk.cell 2
  have HC3 : Hid (∀ x, Below W.heap.size W x → x.cell? ⟨g, 3, none⟩ = some vr) := fun x hx => (h.lift hx).blk.cell 3
  have HS2 : Hid (∀ x, Below W.heap.size W x → Calls Try.prog 47 #[vt] x fun e w' => e = .returned (.int .i64 ((sumC S.trial : Nat) : Int)) ∧ Below x.heap.size x w') := fun x hx => (h.lift hx).sum2
  have HS3 : Hid (∀ x, Below W.heap.size W x → Calls Try.prog 47 #[vr] x fun e w' => e = .returned (.int .i64 ((sumC S.rest : Nat) : Int)) ∧ Below x.heap.size x w') := fun x hx => (h.lift hx).sum3
  clear h
  generalize sumC S.trial = ct at *
  generalize sumC S.rest = cr at *
  go_enter Try.func28, Try.ntmps28
  go_wp2_with fail
  refine wp_region_assert (listV [isV (.pointer (some ⟨g, 0, none⟩)), isV (.pointer (some ⟨g, 0, none⟩)), isV (.pointer (some ⟨g, 2, none⟩)), isV (vt), isV (.int .i64 (ct : Int)), isV (.pointer (some ⟨g, 0, none⟩)), isV (.pointer (some ⟨g, 0, none⟩)), isV (.pointer (some ⟨g, 3, none⟩)), isV (vr), isV (.int .i64 (cr : Int)), isV (.int .i64 ((ct : Int) + (cr : Int))), isV (.int .i64 ((ct : Int) + (cr : Int)))]) (by kernel_rfl) (by kernel_rfl) (listV_stable ?_) ?_ ?_
  · exact ⟨isV_stable _, isV_stable _, isV_stable _, isV_stable _, isV_stable _, isV_stable _, isV_stable _, isV_stable _, isV_stable _, isV_stable _, isV_stable _, isV_stable _, trivial⟩
  refine ⟨fun vs wk hbk hd => ?_, fun vs wk hbk hd => ?_, fun vs wk hbk hd => ?_, fun vs wk hbk hd => ?_, fun vs wk hbk hd => ?_, fun vs wk hbk hd => ?_, fun vs wk hbk hd => ?_, fun vs wk hbk hd => ?_, fun vs wk hbk hd => ?_, fun vs wk hbk hd => ?_, fun vs wk hbk hd => ?_, fun vs wk hbk hd => ?_, trivial⟩
  -- 0: Op.move t0
  · clear hd
    go_wp2
    exact ⟨rfl, rfl, rfl, Below.refl _ _⟩
  -- 1: Op.nilCheck t3
  · simp only [Act.put, List.setIfInBounds_toArray, List.set_cons_zero, List.set_cons_succ]
    have e0 : vs 0 = .pointer (some ⟨g, 0, none⟩) := hd 0 (by kernel_rfl)
    clear hd
    go_wp2
    first | exact ⟨rfl, rfl, rfl, Below.refl _ _⟩ | exact ⟨rfl, rfl, e0, Below.refl _ _⟩
  -- 2: Op.fieldAddr 64 t4 2
  · simp only [Act.put, List.setIfInBounds_toArray, List.set_cons_zero, List.set_cons_succ, Nat.reduceAdd]
    have e1 : vs 1 = .pointer (some ⟨g, 0, none⟩) := hd 1 (by kernel_rfl)
    clear hd
    go_wp2
    first | exact ⟨rfl, rfl, rfl, Below.refl _ _⟩ | exact ⟨rfl, rfl, e1, Below.refl _ _⟩
  -- 3: Op.load 46 t5
  · simp only [Act.put, List.setIfInBounds_toArray, List.set_cons_zero, List.set_cons_succ, Nat.reduceAdd]
    have e2 : vs 2 = .pointer (some ⟨g, 2, none⟩) := hd 2 (by kernel_rfl)
    clear hd
    have hq := HC2.out wk (undrew hbk)
    go_wp2
    first | exact ⟨rfl, rfl, rfl, Below.refl _ _⟩ | exact ⟨rfl, rfl, e2, Below.refl _ _⟩
  -- 4: Op.call { value (Operand.func 47), args := #[t6], argTypes := #[46] }
  · simp only [Act.put, List.setIfInBounds_toArray, List.set_cons_zero, List.set_cons_succ, Nat.reduceAdd]
    have e3 : vs 3 = vt := hd 3 (by kernel_rfl)
    clear hd
    have hco := HS2.out wk (undrew hbk)
    go_wp2_with fail
    refine hco.mono ?_
    rintro e w' ⟨rfl, hb'⟩
    clear hco
    go_wp2
    exact ⟨rfl, rfl, rfl, hb'⟩
  -- 5: Op.move t0
  · simp only [Act.put, List.setIfInBounds_toArray, List.set_cons_zero, List.set_cons_succ, Nat.reduceAdd]
    clear hd
    go_wp2
    exact ⟨rfl, rfl, rfl, Below.refl _ _⟩
  -- 6: Op.nilCheck t8
  · simp only [Act.put, List.setIfInBounds_toArray, List.set_cons_zero, List.set_cons_succ, Nat.reduceAdd]
    have e5 : vs 5 = .pointer (some ⟨g, 0, none⟩) := hd 5 (by kernel_rfl)
    clear hd
    go_wp2
    first | exact ⟨rfl, rfl, rfl, Below.refl _ _⟩ | exact ⟨rfl, rfl, e5, Below.refl _ _⟩
  -- 7: Op.fieldAddr 64 t9 3
  · simp only [Act.put, List.setIfInBounds_toArray, List.set_cons_zero, List.set_cons_succ, Nat.reduceAdd]
    have e6 : vs 6 = .pointer (some ⟨g, 0, none⟩) := hd 6 (by kernel_rfl)
    clear hd
    go_wp2
    first | exact ⟨rfl, rfl, rfl, Below.refl _ _⟩ | exact ⟨rfl, rfl, e6, Below.refl _ _⟩
  -- 8: Op.load 46 t10
  · simp only [Act.put, List.setIfInBounds_toArray, List.set_cons_zero, List.set_cons_succ, Nat.reduceAdd]
    have e7 : vs 7 = .pointer (some ⟨g, 3, none⟩) := hd 7 (by kernel_rfl)
    clear hd
    have hq := HC3.out wk (undrew hbk)
    go_wp2
    first | exact ⟨rfl, rfl, rfl, Below.refl _ _⟩ | exact ⟨rfl, rfl, e7, Below.refl _ _⟩
  -- 9: Op.call { value (Operand.func 47), args := #[t11], argTypes := #[46] }
  · simp only [Act.put, List.setIfInBounds_toArray, List.set_cons_zero, List.set_cons_succ, Nat.reduceAdd]
    have e8 : vs 8 = vr := hd 8 (by kernel_rfl)
    clear hd
    have hco := HS3.out wk (undrew hbk)
    go_wp2_with fail
    refine hco.mono ?_
    rintro e w' ⟨rfl, hb'⟩
    clear hco
    go_wp2
    exact ⟨rfl, rfl, rfl, hb'⟩
  -- 10: Op.binOp BinOp.add 3 t7 t12 3
  · simp only [Act.put, List.setIfInBounds_toArray, List.set_cons_zero, List.set_cons_succ, Nat.reduceAdd]
    have e4 : vs 4 = .int .i64 (ct : Int) := hd 4 (by kernel_rfl)
    have e9 : vs 9 = .int .i64 (cr : Int) := hd 9 (by kernel_rfl)
    clear hd
    go_wp2
    first | exact ⟨rfl, rfl, rfl, Below.refl _ _⟩ | exact ⟨rfl, rfl, e9, Below.refl _ _⟩ | exact ⟨rfl, rfl, e4, Below.refl _ _⟩
  -- 11: Op.assign t13
  · simp only [Act.put, List.setIfInBounds_toArray, List.set_cons_zero, List.set_cons_succ, Nat.reduceAdd]
    have e10 : vs 10 = .int .i64 ((ct : Int) + (cr : Int)) := hd 10 (by kernel_rfl)
    clear hd
    go_wp2
    first | exact ⟨rfl, rfl, rfl, Below.refl _ _⟩ | exact ⟨rfl, rfl, e10, Below.refl _ _⟩
  intro vs wk hbk hd
  simp only [putAll, Act.put, List.setIfInBounds_toArray, List.set_cons_zero, List.set_cons_succ, Nat.reduceAdd]
  have e11 : vs 11 = .int .i64 ((ct : Int) + (cr : Int)) := hd 11 (by decide)
  clear hd
  simp only [e11]
  clear e11
  have HWK := hide (undrew hbk)
  clear hbk
  go_wp2
  go_ret
  exact ⟨by go_num, HWK.out⟩
end Go.Proofs.Ytjijdpdbkpknpaa
