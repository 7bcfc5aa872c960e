/-
  PagePacks: for every input the call returns true; each argument reads afterwards as it read before. Condition: the listed variable reads as the text of the program lays it (tied by the card).
-/
import Derived.Test.YtenhjnicadjbaaaDoorPagePacks
import Derived.Test.YtenhjnicadjbaaaDoorLift
import Derived.Test.YtenhjnicadjbaaaDoorCards
import Derived.Test.YtenhjnicadjbaaaDoorTie
import Derived.SevenTiedAt
namespace Go.Proofs.YtenhjnicadjbaaaDoor
open Go Go.RowKit Go.ChangeShapes Go.WideShapes

set_option maxRecDepth 100000 in
theorem pagePacks_walk {H : Type} {enc : TypeId × Value → H} (W : World) (base : Nat) (args : Array Value) (ds : List (DataW H)) (p : List MemPlace) (hval : ∀ (j : Nat) t v, Tryd.f10.params[j]? = some t → args[j]? = some v → Value.okWide Tryd.prog W .any base t v)
    (hA : DataW.TrodAll enc Tryd.prog W 0 (fun _ => true) true Tryd.f10.params.toList args.toList ds p) (_hlt : ∀ x ∈ p, x.block < W.heap.size) (hL : laidMetH Tryd.prog Rows.pagePacksRow.laid W) :
    Calls Tryd.prog 10 args W fun e w' => e = .returned (.bool true) ∧ Below W.heap.size W w' := by
  rw [Tryd.params10] at hA hval
  obtain ⟨v0, v1, v2, d0, d1, d2, p0, p1, p2, rfl, rfl, rfl, h0, h1, h2⟩ := trodAll_three hA
  obtain ⟨t, rfl, rfl, rfl, wc⟩ := open_int Tryd.underlying3 (hval 0 3 v0 rfl rfl) h0
  obtain ⟨A1, n1, c1, rfl⟩ := okWide_slice Tryd.underlying22 (hval 1 22 v1 rfl rfl)
  obtain ⟨A2, n2, c2, rfl⟩ := okWide_slice Tryd.underlying23 (hval 2 23 v2 rfl rfl)
  obtain ⟨ls, hn1, _, _, hR1⟩ := open_byte_rows h1
  obtain ⟨l2, hn2, hc2, _, hR2⟩ := open_bytes h2
  have hh := half_at hL
  cases hf : fits14 ls with
  | false => exact pagePacks_no t ls A1 A2 n1 c1 n2 c2 W hn1.symm (.inl hf) hR1 hh
  | true =>
    by_cases h6 : l2.length ≤ 1000
    · exact pagePacks_yes t ls l2 A1 A2 n1 c1 n2 c2 W hn1.symm hn2.symm hf h6 (by omega) hR1 hR2 hh
    · exact pagePacks_no t ls A1 A2 n1 c1 n2 c2 W hn1.symm (.inr ⟨hf, by omega⟩) hR1 hh

set_option maxRecDepth 100000 in
theorem pagePacks_holds : Rows.PagePacksSaid :=
  OpenClaim.holds_of_wide 10 Tryd.f10 rfl rfl rfl rfl rfl rfl rfl ⟨rfl, rfl, rfl, rfl, rfl⟩ rfl rfl rfl rfl rfl (by kernel_rfl) Tryd.func10 (by kernel_rfl)
    (of_decide_eq_true (by kernel_rfl)) (by unfold Func.isWrapper; first | (rw [if_pos (by decide +kernel)]; kernel_rfl) | (rw [if_neg (by decide +kernel)]; exact ⟨rfl, rfl⟩))
    (fun os started H enc _ => lift_laid started (s := Rows.pagePacksSpec) #[.int .i64 0, .slice none 0 0, .slice none 0 0] 400 (by kernel_rfl) Tryd.func10 (by kernel_rfl) rfl rfl
      (fun H ds h => by
        match ds, h with
        | [d0, d1, d2], _ => rfl)
      (World.shaped_of_RefB (by kernel_rfl) (by kernel_rfl)) (by kernel_rfl) (by kernel_rfl) (by kernel_rfl)
      (laidMetH_of_parts3 (fuel := 8) (laidMet_of_run' 8 (by kernel_rfl) (by kernel_rfl)) (by kernel_rfl) (by kernel_rfl)) rfl
      (fun W base args ds p h1 h2 h3 h4 => pagePacks_walk W base args ds p h1 h2 h3 h4))

theorem pagePacks_card_holds : Rows.PagePacksCardSaid :=
  Claim7.holds_tied_plain_at .later [] [.data] true Rows.pagePacksCard.stood.harness false
    pagePacks_holds (fun _ h => by cases h) (by kernel_rfl) (fun _ h => by cases h) pagePacks_row_tie rfl ⟨rfl, rfl⟩ (by kernel_rfl) rfl
    (fun f fn hf hfn => by
      obtain rfl : f = 10 := Option.some.inj ((show Tryd.prog.funcNamed Rows.pagePacksRow.func = some 10 by kernel_rfl).symm.trans hf) |>.symm
      obtain rfl : fn = Tryd.f10 := (Option.some.inj (Tryd.func10.symm.trans hfn)).symm
      exact ⟨by kernel_rfl, fun j t ht => by
        rw [Tryd.params10] at ht
        have hm : t ∈ [3, 22, 23] := by simpa using Array.mem_of_getElem? ht
        have hall : ([3, 22, 23].all fun u => !Tryd.prog.wantsStandIn u) = true := by kernel_rfl
        exact (show Tryd.prog.wantsStandIn t = false by simpa using List.all_eq_true.1 hall t hm)⟩)
    (by kernel_rfl)
#print axioms pagePacks_card_holds
end Go.Proofs.YtenhjnicadjbaaaDoor
