/-
  CrcGrows: for every input the call returns true; each argument reads afterwards as it read before. Condition: the listed variable reads as the text of the program lays it (tied by the card).
-/
import Derived.Test.YtenhjnicadjbaaaDoorCrcGrows
import Derived.Test.YtenhjnicadjbaaaDoorLift
import Derived.Test.YtenhjnicadjbaaaDoorCards
import Derived.Test.YtenhjnicadjbaaaDoorTie
import Derived.SevenTiedAt
namespace Go.Proofs.YtenhjnicadjbaaaDoor
open Go Go.RowKit Go.ChangeShapes Go.WideShapes

set_option maxRecDepth 100000 in
theorem crcGrows_walk {H : Type} {enc : TypeId × Value → H} (W : World) (base : Nat) (args : Array Value) (ds : List (DataW H)) (p : List MemPlace) (hval : ∀ (j : Nat) t v, Tryd.f5.params[j]? = some t → args[j]? = some v → Value.okWide Tryd.prog W .any base t v)
    (hA : DataW.TrodAll enc Tryd.prog W 0 (fun _ => true) true Tryd.f5.params.toList args.toList ds p) (_hlt : ∀ x ∈ p, x.block < W.heap.size) (hL : laidMetH Tryd.prog Rows.crcGrowsRow.laid W) :
    Calls Tryd.prog 5 args W fun e w' => e = .returned (.bool true) ∧ Below W.heap.size W w' := by
  rw [Tryd.params5] at hA hval
  obtain ⟨v0, d0, rfl, rfl, h0⟩ := trodAll_one hA
  obtain ⟨A, n, c, rfl⟩ := okWide_slice Tryd.underlying23 (hval 0 23 v0 rfl rfl)
  obtain ⟨l, hn, hc, _, hR⟩ := open_bytes h0
  have hh := half_at hL
  by_cases h6 : l.length ≤ 600
  · exact crcGrows_yes l A n c W hn.symm h6 (by omega) hR hh
  · exact crcGrows_no n c A W (by omega) hh

set_option maxRecDepth 100000 in
theorem crcGrows_holds : Rows.CrcGrowsSaid :=
  OpenClaim.holds_of_wide 5 Tryd.f5 rfl rfl rfl rfl rfl rfl rfl ⟨rfl, rfl, rfl, rfl, rfl⟩ rfl rfl rfl rfl rfl (by kernel_rfl) Tryd.func5 (by kernel_rfl)
    (of_decide_eq_true (by kernel_rfl)) (by unfold Func.isWrapper; first | (rw [if_pos (by decide +kernel)]; kernel_rfl) | (rw [if_neg (by decide +kernel)]; exact ⟨rfl, rfl⟩))
    (fun os started H enc _ => lift_laid started (s := Rows.crcGrowsSpec) #[.slice none 0 0] 400 (by kernel_rfl) Tryd.func5 (by kernel_rfl) rfl rfl
      (fun H ds h => by
        match ds, h with
        | [d0], _ => rfl)
      (World.shaped_of_RefB (by kernel_rfl) (by kernel_rfl)) (by kernel_rfl) (by kernel_rfl) (by kernel_rfl)
      (laidMetH_of_parts3 (fuel := 8) (laidMet_of_run' 8 (by kernel_rfl) (by kernel_rfl)) (by kernel_rfl) (by kernel_rfl)) rfl
      (fun W base args ds p h1 h2 h3 h4 => crcGrows_walk W base args ds p h1 h2 h3 h4))

theorem crcGrows_card_holds : Rows.CrcGrowsCardSaid :=
  Claim7.holds_tied_plain_at .later [] [.data] true Rows.crcGrowsCard.stood.harness false
    crcGrows_holds (fun _ h => by cases h) (by kernel_rfl) (fun _ h => by cases h) crcGrows_row_tie rfl ⟨rfl, rfl⟩ (by kernel_rfl) rfl
    (fun f fn hf hfn => by
      obtain rfl : f = 5 := Option.some.inj ((show Tryd.prog.funcNamed Rows.crcGrowsRow.func = some 5 by kernel_rfl).symm.trans hf) |>.symm
      obtain rfl : fn = Tryd.f5 := (Option.some.inj (Tryd.func5.symm.trans hfn)).symm
      exact ⟨by kernel_rfl, fun j t ht => by
        rw [Tryd.params5] at ht
        have hm : t ∈ [23] := by simpa using Array.mem_of_getElem? ht
        have hall : ([23].all fun u => !Tryd.prog.wantsStandIn u) = true := by kernel_rfl
        exact (show Tryd.prog.wantsStandIn t = false by simpa using List.all_eq_true.1 hall t hm)⟩)
    (by kernel_rfl)
#print axioms crcGrows_card_holds
end Go.Proofs.YtenhjnicadjbaaaDoor
