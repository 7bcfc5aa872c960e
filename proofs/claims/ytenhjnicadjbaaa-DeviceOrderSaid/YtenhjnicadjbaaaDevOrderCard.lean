/-
  DeviceOrder: for every input the call returns true; each argument reads afterwards as it read before. Condition: none.
-/
import Derived.Test.YtenhjnicadjbaaaDevOrder
import Derived.Test.YtenhjnicadjbaaaLift
namespace Go.Proofs.Ytenhjnicadjbaaa
open Go Go.RowKit Go.ChangeShapes Go.WideShapes

set_option maxRecDepth 100000 in
theorem deviceOrder_walk {H : Type} {enc : TypeId × Value → H} (W : World) (base : Nat) (args : Array Value) (ds : List (DataW H)) (p : List MemPlace) (hval : ∀ (j : Nat) t v, Try.f4.params[j]? = some t → args[j]? = some v → Value.okWide Try.prog W .any base t v)
    (hA : DataW.TrodAll enc Try.prog W 0 (fun _ => true) true Try.f4.params.toList args.toList ds p) (_hlt : ∀ x ∈ p, x.block < W.heap.size) :
    Calls Try.prog 4 args W fun e w' => e = .returned (.bool true) ∧ Below W.heap.size W w' := by
  rw [Try.params4] at hA hval
  obtain ⟨v0, v1, d0, d1, p0, p1, rfl, rfl, rfl, h0, h1⟩ := trodAll_two hA
  obtain ⟨A1, n1, c1, rfl⟩ := okWide_slice Try.underlying32 (hval 0 32 v0 rfl rfl)
  obtain ⟨l1, hn1, hc1, _, hR1⟩ := open_bytes h0
  obtain ⟨fl, rfl, rfl, rfl, wc⟩ := open_int Try.underlying3 (hval 1 3 v1 rfl rfl) h1
  by_cases h6 : l1.length ≤ 60
  · exact devOrder_any l1 A1 n1 c1 fl W hn1.symm h6 hR1
  · exact devOrder_no A1 n1 c1 fl W (by omega)

set_option maxRecDepth 100000 in
theorem deviceOrder_holds : Rows.DeviceOrderSaid :=
  OpenClaim.holds_of_wide 4 Try.f4 rfl rfl rfl rfl rfl rfl rfl ⟨rfl, rfl, rfl, rfl, rfl⟩ rfl rfl rfl rfl rfl (by kernel_rfl) Try.func4 (by kernel_rfl)
    (of_decide_eq_true (by kernel_rfl)) (by unfold Func.isWrapper; first | (rw [if_pos (by decide +kernel)]; kernel_rfl) | (rw [if_neg (by decide +kernel)]; exact ⟨rfl, rfl⟩))
    (fun os started H enc _ => lift_plain started (s := Rows.deviceOrderSpec) #[.slice none 0 0, .int .i64 0] (by kernel_rfl) Try.func4 (by kernel_rfl) rfl rfl
      (fun H ds h => by
        match ds, h with
        | [d0, d1], _ => rfl)
      (by kernel_rfl) (by kernel_rfl) (by kernel_rfl) (by kernel_rfl) (by kernel_rfl)
      (fun W base args ds p h1 h2 h3 => deviceOrder_walk W base args ds p h1 h2 h3))

#print axioms deviceOrder_holds
end Go.Proofs.Ytenhjnicadjbaaa
