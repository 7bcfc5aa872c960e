/-
  JournalMany: for every input the call returns true; each argument reads afterwards as it read before. Condition: none.
-/
import Derived.Test.YtogjdfiimflbaaaJrMany
import Derived.Test.YtogjdfiimflbaaaLift
namespace Go.Proofs.Ytogjdfiimflbaaa
open Go Go.RowKit Go.ChangeShapes Go.WideShapes

set_option maxRecDepth 100000 in
theorem journalMany_walk {H : Type} {enc : TypeId × Value → H} (W : World) (base : Nat) (args : Array Value) (ds : List (DataW H)) (p : List MemPlace) (hval : ∀ (j : Nat) t v, Try.f3.params[j]? = some t → args[j]? = some v → Value.okWide Try.prog W .any base t v)
    (hA : DataW.TrodAll enc Try.prog W 0 (fun _ => true) true Try.f3.params.toList args.toList ds p) (_hlt : ∀ x ∈ p, x.block < W.heap.size) :
    Calls Try.prog 3 args W fun e w' => e = .returned (.bool true) ∧ Below W.heap.size W w' := by
  rw [Try.params3] at hA hval
  obtain ⟨v0, v1, d0, d1, p0, p1, rfl, rfl, rfl, h0, h1⟩ := trodAll_two hA
  obtain ⟨nn, rfl, rfl, rfl, wc⟩ := open_int Try.underlying3 (hval 0 3 v0 rfl rfl) h0
  obtain ⟨A1, n1, c1, rfl⟩ := okWide_slice Try.underlying22 (hval 1 22 v1 rfl rfl)
  obtain ⟨l1, hn1, hc1, _, hR1⟩ := open_bytes h1
  by_cases h6 : l1.length ≤ 60
  · exact many_any nn l1 A1 n1 c1 W hn1.symm h6 hR1
  · exact many_no nn A1 n1 c1 W (by omega)

set_option maxRecDepth 100000 in
theorem journalMany_holds : Rows.JournalManySaid :=
  OpenClaim.holds_of_wide 3 Try.f3 rfl rfl rfl rfl rfl rfl rfl ⟨rfl, rfl, rfl, rfl, rfl⟩ rfl rfl rfl rfl rfl (by kernel_rfl) Try.func3 (by kernel_rfl)
    (of_decide_eq_true (by kernel_rfl)) (by unfold Func.isWrapper; first | (rw [if_pos (by decide +kernel)]; kernel_rfl) | (rw [if_neg (by decide +kernel)]; exact ⟨rfl, rfl⟩))
    (fun os started H enc _ => lift_plain started (s := Rows.journalManySpec) #[.int .i64 0, .slice none 0 0] (by kernel_rfl) Try.func3 (by kernel_rfl) rfl rfl
      (fun H ds h => by
        match ds, h with
        | [d0, d1], _ => rfl)
      (by kernel_rfl) (by kernel_rfl) (by kernel_rfl) (by kernel_rfl) (by kernel_rfl)
      (fun W base args ds p h1 h2 h3 => journalMany_walk W base args ds p h1 h2 h3))

#print axioms journalMany_holds
end Go.Proofs.Ytogjdfiimflbaaa
