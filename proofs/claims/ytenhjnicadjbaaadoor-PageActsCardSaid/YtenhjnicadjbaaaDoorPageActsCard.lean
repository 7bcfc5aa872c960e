/-
  PageActs: for every input the call returns true; each argument reads afterwards as it read before. Condition: the listed variable reads as the text of the program lays it (tied by the card).
-/
import Derived.Test.YtenhjnicadjbaaaDoorPageActs
import Derived.Test.YtenhjnicadjbaaaDoorOpenActs
import Derived.Test.YtenhjnicadjbaaaDoorCards
import Derived.Test.YtenhjnicadjbaaaDoorTie
import Derived.SevenTiedAt
namespace Go.Proofs.YtenhjnicadjbaaaDoor
open Go Go.RowKit Go.ChangeShapes Go.WideShapes

set_option maxRecDepth 100000 in
set_option maxHeartbeats 400000 in
theorem pageActs_no (x : Int) (A : Option Addr) (n c : Nat) (W : World) (hn : 40 < n) (hh : HalfAt W) :
    Calls Tryd.prog 11 #[.int .i64 x, .slice A n c] W fun e w' => e = .returned (.bool true) ∧ Below W.heap.size W w' := by
  have HH := hide hh
  have t40 : decide ((40 : Int) < (n : Int)) = true := decide_eq_true (by omega)
  clear hh
  go_enter Tryd.func11, Tryd.ntmps11
  go_wp2_with fail
  refine (awake14 W HH.out).mono ?_
  rintro e w1 ⟨rfl, hbe⟩
  have HB1 := hide hbe
  clear hbe
  go_wp2_with fail
  refine (awake14 w1 (HH.out.below HB1.out)).mono ?_
  rintro e w2 ⟨rfl, hbe⟩
  have HB2 := hide (HB1.out.trans (hbe.mono HB1.out.size))
  clear hbe
  go_wp2
  go_ret
  exact ⟨rfl, HB2.out⟩

set_option maxRecDepth 100000 in
theorem pageActs_walk {H : Type} {enc : TypeId × Value → H} (W : World) (base : Nat) (args : Array Value) (ds : List (DataW H)) (p : List MemPlace) (hval : ∀ (j : Nat) t v, Tryd.f11.params[j]? = some t → args[j]? = some v → Value.okWide Tryd.prog W .any base t v)
    (hA : DataW.TrodAll enc Tryd.prog W 0 (fun _ => true) true Tryd.f11.params.toList args.toList ds p) (_hlt : ∀ x ∈ p, x.block < W.heap.size) (hL : laidMetH Tryd.prog Rows.pageActsRow.laid W) :
    Calls Tryd.prog 11 args W fun e w' => e = .returned (.bool true) ∧ Below W.heap.size W w' := by
  rw [Tryd.params11] at hA hval
  obtain ⟨v0, v1, d0, d1, p0, p1, rfl, rfl, rfl, h0, h1⟩ := trodAll_two hA
  obtain ⟨t, rfl, rfl, rfl, wc⟩ := open_int Tryd.underlying3 (hval 0 3 v0 rfl rfl) h0
  obtain ⟨A1, n1, c1, rfl⟩ := okWide_slice Tryd.underlying54 (hval 1 54 v1 rfl rfl)
  obtain ⟨vs, hn1, _, _, hR1⟩ := open_acts h1
  have hh := half_at hL
  by_cases h6 : vs.length ≤ 40
  · exact pageActs_yes t vs A1 n1 c1 W hn1.symm h6 hR1 hh
  · exact pageActs_no t A1 n1 c1 W (by omega) hh

set_option maxRecDepth 100000 in
theorem pageActs_holds : Rows.PageActsSaid :=
  OpenClaim.holds_of_wide 11 Tryd.f11 rfl rfl rfl rfl rfl rfl rfl ⟨rfl, rfl, rfl, rfl, rfl⟩ rfl rfl rfl rfl rfl (by kernel_rfl) Tryd.func11 (by kernel_rfl)
    (of_decide_eq_true (by kernel_rfl)) (by unfold Func.isWrapper; first | (rw [if_pos (by decide +kernel)]; kernel_rfl) | (rw [if_neg (by decide +kernel)]; exact ⟨rfl, rfl⟩))
    (fun os started H enc _ => lift_laid started (s := Rows.pageActsSpec) #[.int .i64 0, .slice none 0 0] 400 (by kernel_rfl) Tryd.func11 (by kernel_rfl) rfl rfl
      (fun H ds h => by
        match ds, h with
        | [d0, d1], _ => rfl)
      (World.shaped_of_RefB (by kernel_rfl) (by kernel_rfl)) (by kernel_rfl) (by kernel_rfl) (by kernel_rfl)
      (laidMetH_of_parts3 (fuel := 8) (laidMet_of_run' 8 (by kernel_rfl) (by kernel_rfl)) (by kernel_rfl) (by kernel_rfl)) rfl
      (fun W base args ds p h1 h2 h3 h4 => pageActs_walk W base args ds p h1 h2 h3 h4))

theorem pageActs_card_holds : Rows.PageActsCardSaid :=
  Claim7.holds_tied_plain_at .later [] [.data] true Rows.pageActsCard.stood.harness false
    pageActs_holds (fun _ h => by cases h) (by kernel_rfl) (fun _ h => by cases h) pageActs_row_tie rfl ⟨rfl, rfl⟩ (by kernel_rfl) rfl
    (fun f fn hf hfn => by
      obtain rfl : f = 11 := Option.some.inj ((show Tryd.prog.funcNamed Rows.pageActsRow.func = some 11 by kernel_rfl).symm.trans hf) |>.symm
      obtain rfl : fn = Tryd.f11 := (Option.some.inj (Tryd.func11.symm.trans hfn)).symm
      exact ⟨by kernel_rfl, fun j t ht => by
        rw [Tryd.params11] at ht
        have hm : t ∈ [3, 54] := by simpa using Array.mem_of_getElem? ht
        have hall : ([3, 54].all fun u => !Tryd.prog.wantsStandIn u) = true := by kernel_rfl
        exact (show Tryd.prog.wantsStandIn t = false by simpa using List.all_eq_true.1 hall t hm)⟩)
    (by kernel_rfl)
#print axioms pageActs_card_holds
end Go.Proofs.YtenhjnicadjbaaaDoor
