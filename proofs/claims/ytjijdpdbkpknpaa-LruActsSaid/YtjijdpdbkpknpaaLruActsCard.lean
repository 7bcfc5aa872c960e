/-
  LruActs: for every input the call returns true; each argument reads afterwards as it read before. Condition: none.
-/
import Derived.Test.YtjijdpdbkpknpaaOpenLru
namespace Go.Proofs.Ytjijdpdbkpknpaa
open Go Go.RowKit Go.ChangeShapes Go.WideShapes

set_option maxRecDepth 100000 in
theorem lruActs_walk {H : Type} {enc : TypeId × Value → H} (W : World) (base : Nat) (args : Array Value) (ds : List (DataW H)) (p : List MemPlace) (hval : ∀ (j : Nat) t v, Try.f5.params[j]? = some t → args[j]? = some v → Value.okWide Try.prog W .any base t v)
    (hA : DataW.TrodAll enc Try.prog W 0 (fun _ => true) true Try.f5.params.toList args.toList ds p) (_hlt : ∀ x ∈ p, x.block < W.heap.size) (hsz : ∀ n ∈ DataW.weightsEach Try.prog Try.f5.params.toList ds, n ≤ reachBytes) :
    Calls Try.prog 5 args W fun e w' => e = .returned (.bool true) ∧ Below W.heap.size W w' := by
  rw [Try.params5] at hA hval hsz
  obtain ⟨v0, v1, v2, d0, d1, d2, p0, p1, p2, rfl, rfl, rfl, h0, h1, h2⟩ := trodAll_three hA
  obtain ⟨bu, rfl, rfl, rfl, wb⟩ := open_int Try.underlying3 (hval 0 3 v0 rfl rfl) h0
  obtain ⟨sh, rfl, rfl, rfl, ws⟩ := open_int Try.underlying3 (hval 1 3 v1 rfl rfl) h1
  obtain ⟨A1, n1, c1, rfl⟩ := okWide_slice Try.underlying54 (hval 2 54 v2 rfl rfl)
  have hz : Sz 54 d2 := fun n hn => hsz n (DataW.weights_mem_each (j := 2) (t := 54) (d := d2) rfl rfl n hn)
  obtain ⟨L, hL, hA2⟩ := open_acts h2 hz
  subst hL
  by_cases h6 : L.length ≤ 60
  · by_cases hbad : BadNew bu sh
    · exact lruActs_bad A1 _ c1 bu sh W h6 hbad
    · have hb : 0 ≤ bu ∧ bu ≤ 1099511627776 ∧ 0 ≤ sh ∧ sh ≤ 100 := by unfold BadNew at hbad; omega
      obtain ⟨b, rfl⟩ := Int.eq_ofNat_of_zero_le hb.1
      obtain ⟨s, rfl⟩ := Int.eq_ofNat_of_zero_le hb.2.2.1
      exact lruActs_any L A1 _ c1 b s W rfl h6 (by omega) (by omega) hA2
  · exact lruActs_no A1 _ c1 bu sh W (by omega)

set_option maxRecDepth 100000 in
theorem lruActs_holds : Rows.LruActsSaid :=
  OpenClaim.holds_of_wide 5 Try.f5 rfl rfl rfl rfl rfl rfl rfl ⟨rfl, rfl, rfl, rfl, rfl⟩ rfl rfl rfl rfl rfl (by kernel_rfl) Try.func5 (by kernel_rfl)
    (of_decide_eq_true (by kernel_rfl)) (by unfold Func.isWrapper; first | (rw [if_pos (by decide +kernel)]; kernel_rfl) | (rw [if_neg (by decide +kernel)]; exact ⟨rfl, rfl⟩))
    (fun os started H enc _ => lift_sized started (s := Rows.lruActsSpec) #[.int .i64 0, .int .i64 0, .slice none 0 0] (by kernel_rfl) Try.func5 (by kernel_rfl) rfl rfl
      (fun H ds h => by
        match ds, h with
        | [d0, d1, d2], _ => rfl)
      (by kernel_rfl) (by kernel_rfl) (by kernel_rfl) (by kernel_rfl) (by kernel_rfl)
      (fun W base args ds p h1 h2 h3 h4 => lruActs_walk W base args ds p h1 h2 h3 h4))

#print axioms lruActs_holds
end Go.Proofs.Ytjijdpdbkpknpaa
