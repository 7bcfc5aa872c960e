/-
  DeviceKeeps: for every input the call returns true; each argument reads afterwards as it read before. Condition: none.
-/
import Derived.Test.YtenhjnicadjbaaaDevKeeps
import Derived.Test.YtenhjnicadjbaaaOpenDev
namespace Go.Proofs.Ytenhjnicadjbaaa
open Go Go.RowKit Go.ChangeShapes Go.WideShapes

set_option maxRecDepth 100000 in
theorem deviceKeeps_walk {H : Type} {enc : TypeId × Value → H} (W : World) (base : Nat) (args : Array Value) (ds : List (DataW H)) (p : List MemPlace) (hval : ∀ (j : Nat) t v, Try.f3.params[j]? = some t → args[j]? = some v → Value.okWide Try.prog W .any base t v)
    (hA : DataW.TrodAll enc Try.prog W 0 (fun _ => true) true Try.f3.params.toList args.toList ds p) (_hlt : ∀ x ∈ p, x.block < W.heap.size) :
    Calls Try.prog 3 args W fun e w' => e = .returned (.bool true) ∧ Below W.heap.size W w' := by
  rw [Try.params3] at hA hval
  obtain ⟨v0, v1, v2, d0, d1, d2, p0, p1, p2, rfl, rfl, rfl, h0, h1, h2⟩ := trodAll_three hA
  obtain ⟨x0, x1, x2, x3, rfl⟩ := open_int4 (hval 0 22 v0 rfl rfl) h0
  obtain ⟨A, c, torn, P, keep, rfl, hR⟩ := open_crash (hval 1 25 v1 rfl rfl) h1
  obtain ⟨part, rfl, rfl, rfl, wc⟩ := open_int Try.underlying3 (hval 2 3 v2 rfl rfl) h2
  by_cases h6 : keep.length ≤ 300
  · exact devKeeps_any x0 x1 x2 x3 torn P part keep A keep.length c W rfl h6 hR
  · exact devKeeps_no x0 x1 x2 x3 torn P part A keep.length c W (by omega)

set_option maxRecDepth 100000 in
theorem deviceKeeps_holds : Rows.DeviceKeepsSaid :=
  OpenClaim.holds_of_wide 3 Try.f3 rfl rfl rfl rfl rfl rfl rfl ⟨rfl, rfl, rfl, rfl, rfl⟩ rfl rfl rfl rfl rfl (by kernel_rfl) Try.func3 (by kernel_rfl)
    (of_decide_eq_true (by kernel_rfl)) (by unfold Func.isWrapper; first | (rw [if_pos (by decide +kernel)]; kernel_rfl) | (rw [if_neg (by decide +kernel)]; exact ⟨rfl, rfl⟩))
    (fun os started H enc _ => lift_plain started (s := Rows.deviceKeepsSpec) #[.agg #[.int .i64 0, .int .i64 0, .int .i64 0, .int .i64 0], .agg #[.slice none 0 0, .int .i64 0, .int .i64 0], .int .i64 0] (by kernel_rfl) Try.func3 (by kernel_rfl) rfl rfl
      (fun H ds h => by
        match ds, h with
        | [d0, d1, d2], _ => rfl)
      (by kernel_rfl) (by kernel_rfl) (by kernel_rfl) (by kernel_rfl) (by kernel_rfl)
      (fun W base args ds p h1 h2 h3 => deviceKeeps_walk W base args ds p h1 h2 h3))

#print axioms deviceKeeps_holds
end Go.Proofs.Ytenhjnicadjbaaa
