/-
  PageCuts: for every input the call returns true; each argument reads afterwards as it read before. Condition: the listed variable reads as the text of the program lays it (tied by the card).
-/
import Derived.Test.YtenhjnicadjbaaaDoorPageCuts
import Derived.Test.YtenhjnicadjbaaaDoorLift
import Derived.Test.YtenhjnicadjbaaaDoorCards
import Derived.Test.YtenhjnicadjbaaaDoorTie
import Derived.SevenTiedAt
namespace Go.Proofs.YtenhjnicadjbaaaDoor
open Go Go.RowKit Go.ChangeShapes Go.WideShapes

set_option maxRecDepth 100000 in
theorem pageCuts_walk {H : Type} {enc : TypeId × Value → H} (W : World) (base : Nat) (args : Array Value) (ds : List (DataW H)) (p : List MemPlace) (hval : ∀ (j : Nat) t v, Tryd.f9.params[j]? = some t → args[j]? = some v → Value.okWide Tryd.prog W .any base t v)
    (hA : DataW.TrodAll enc Tryd.prog W 0 (fun _ => true) true Tryd.f9.params.toList args.toList ds p) (_hlt : ∀ x ∈ p, x.block < W.heap.size) (hL : laidMetH Tryd.prog Rows.pageCutsRow.laid W) :
    Calls Tryd.prog 9 args W fun e w' => e = .returned (.bool true) ∧ Below W.heap.size W w' := by
  rw [Tryd.params9] at hA hval
  obtain ⟨v0, d0, rfl, rfl, h0⟩ := trodAll_one hA
  obtain ⟨A1, n1, c1, rfl⟩ := okWide_slice Tryd.underlying23 (hval 0 23 v0 rfl rfl)
  obtain ⟨l1, hn1, hc1, _, hR1⟩ := open_bytes h0
  have hh := half_at hL
  by_cases h6 : l1.length ≤ 3000
  · exact pageCuts_yes l1 A1 n1 c1 W hn1.symm h6 (by omega) hR1 hh
  · exact pageCuts_no n1 c1 A1 W (by omega) hh

set_option maxRecDepth 100000 in
theorem pageCuts_holds : Rows.PageCutsSaid :=
  OpenClaim.holds_of_wide 9 Tryd.f9 rfl rfl rfl rfl rfl rfl rfl ⟨rfl, rfl, rfl, rfl, rfl⟩ rfl rfl rfl rfl rfl (by kernel_rfl) Tryd.func9 (by kernel_rfl)
    (of_decide_eq_true (by kernel_rfl)) (by unfold Func.isWrapper; first | (rw [if_pos (by decide +kernel)]; kernel_rfl) | (rw [if_neg (by decide +kernel)]; exact ⟨rfl, rfl⟩))
    (fun os started H enc _ => lift_laid started (s := Rows.pageCutsSpec) #[.slice none 0 0] 400 (by kernel_rfl) Tryd.func9 (by kernel_rfl) rfl rfl
      (fun H ds h => by
        match ds, h with
        | [d0], _ => rfl)
      (World.shaped_of_RefB (by kernel_rfl) (by kernel_rfl)) (by kernel_rfl) (by kernel_rfl) (by kernel_rfl)
      (laidMetH_of_parts3 (fuel := 8) (laidMet_of_run' 8 (by kernel_rfl) (by kernel_rfl)) (by kernel_rfl) (by kernel_rfl)) rfl
      (fun W base args ds p h1 h2 h3 h4 => pageCuts_walk W base args ds p h1 h2 h3 h4))

theorem pageCuts_card_holds : Rows.PageCutsCardSaid :=
  Claim7.holds_tied_plain_at .later [] [.data] true Rows.pageCutsCard.stood.harness false
    pageCuts_holds (fun _ h => by cases h) (by kernel_rfl) (fun _ h => by cases h) pageCuts_row_tie rfl ⟨rfl, rfl⟩ (by kernel_rfl) rfl
    (fun f fn hf hfn => by
      obtain rfl : f = 9 := Option.some.inj ((show Tryd.prog.funcNamed Rows.pageCutsRow.func = some 9 by kernel_rfl).symm.trans hf) |>.symm
      obtain rfl : fn = Tryd.f9 := (Option.some.inj (Tryd.func9.symm.trans hfn)).symm
      exact ⟨by kernel_rfl, fun j t ht => by
        rw [Tryd.params9] at ht
        have hm : t ∈ [23] := by simpa using Array.mem_of_getElem? ht
        have hall : ([23].all fun u => !Tryd.prog.wantsStandIn u) = true := by kernel_rfl
        exact (show Tryd.prog.wantsStandIn t = false by simpa using List.all_eq_true.1 hall t hm)⟩)
    (by kernel_rfl)
#print axioms pageCuts_card_holds
end Go.Proofs.YtenhjnicadjbaaaDoor
