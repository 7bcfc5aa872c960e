/-
  LruOnce: for every input the call returns true; each argument reads afterwards as it read before. Condition: none.
-/
import Derived.Test.YtjijdpdbkpknpaaLruOnce
import Derived.Test.YtjijdpdbkpknpaaOpenBools
namespace Go.Proofs.Ytjijdpdbkpknpaa
open Go Go.RowKit Go.ChangeShapes Go.WideShapes

set_option maxRecDepth 100000 in
theorem lruOnce_walk {H : Type} {enc : TypeId × Value → H} (W : World) (base : Nat) (args : Array Value) (ds : List (DataW H)) (p : List MemPlace) (hval : ∀ (j : Nat) t v, Try.f6.params[j]? = some t → args[j]? = some v → Value.okWide Try.prog W .any base t v)
    (hA : DataW.TrodAll enc Try.prog W 0 (fun _ => true) true Try.f6.params.toList args.toList ds p) (_hlt : ∀ x ∈ p, x.block < W.heap.size) (hsz : ∀ n ∈ DataW.weightsEach Try.prog Try.f6.params.toList ds, n ≤ reachBytes) :
    Calls Try.prog 6 args W fun e w' => e = .returned (.bool true) ∧ Below W.heap.size W w' := by
  rw [Try.params6] at hA hval hsz
  obtain ⟨v0, v1, d0, d1, p0, p1, rfl, rfl, rfl, h0, h1⟩ := trodAll_two hA
  obtain ⟨A1, n1, c1, rfl⟩ := okWide_slice Try.underlying46 (hval 0 46 v0 rfl rfl)
  obtain ⟨A2, n2, c2, rfl⟩ := okWide_slice Try.underlying66 (hval 1 66 v1 rfl rfl)
  obtain ⟨fuel1, h1⟩ := h1
  obtain ⟨A3, U, c3, hv, hU⟩ := bools_cell (v := .slice A2 n2 c2) h1
  injection hv with e1 e2 e3
  subst e1 e2 e3
  have hz : Sz 46 d0 := fun n hn => hsz n (DataW.weights_mem_each (j := 0) (t := 46) (d := d0) rfl rfl n hn)
  obtain ⟨L, hL, hR, hH⟩ := open_helds h0 hz
  subst hL
  by_cases h6 : L.length ≤ 30
  · by_cases h7 : U.length ≤ 60
    · exact lruOnce_any L U A1 A2 _ _ c1 c2 W rfl rfl h6 h7 ⟨hR, fun x hx => hH x hx⟩ hU
    · exact lruOnce_no A1 A2 _ _ c1 c2 W (.inr ⟨h6, by omega⟩)
  · exact lruOnce_no A1 A2 _ _ c1 c2 W (.inl (by omega))

set_option maxRecDepth 100000 in
theorem lruOnce_holds : Rows.LruOnceSaid :=
  OpenClaim.holds_of_wide 6 Try.f6 rfl rfl rfl rfl rfl rfl rfl ⟨rfl, rfl, rfl, rfl, rfl⟩ rfl rfl rfl rfl rfl (by kernel_rfl) Try.func6 (by kernel_rfl)
    (of_decide_eq_true (by kernel_rfl)) (by unfold Func.isWrapper; first | (rw [if_pos (by decide +kernel)]; kernel_rfl) | (rw [if_neg (by decide +kernel)]; exact ⟨rfl, rfl⟩))
    (fun os started H enc _ => lift_sized started (s := Rows.lruOnceSpec) #[.slice none 0 0, .slice none 0 0] (by kernel_rfl) Try.func6 (by kernel_rfl) rfl rfl
      (fun H ds h => by
        match ds, h with
        | [d0, d1], _ => rfl)
      (by kernel_rfl) (by kernel_rfl) (by kernel_rfl) (by kernel_rfl) (by kernel_rfl)
      (fun W base args ds p h1 h2 h3 h4 => lruOnce_walk W base args ds p h1 h2 h3 h4))

#print axioms lruOnce_holds
end Go.Proofs.Ytjijdpdbkpknpaa
