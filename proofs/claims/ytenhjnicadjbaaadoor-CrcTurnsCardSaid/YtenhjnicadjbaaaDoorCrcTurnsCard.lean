/-
  CrcTurns: for every input the call returns true; each argument reads afterwards as it read before. Condition: the listed variable reads as the text of the program lays it (tied by the card).
-/
import Derived.Test.YtenhjnicadjbaaaDoorCrcTurns
import Derived.Test.YtenhjnicadjbaaaDoorLift
import Derived.Test.YtenhjnicadjbaaaDoorCards
import Derived.Test.YtenhjnicadjbaaaDoorTie
import Derived.SevenTiedAt
namespace Go.Proofs.YtenhjnicadjbaaaDoor
open Go Go.RowKit Go.ChangeShapes Go.WideShapes

set_option maxRecDepth 100000 in
theorem crcTurns_walk {H : Type} {enc : TypeId × Value → H} (W : World) (base : Nat) (args : Array Value) (ds : List (DataW H)) (p : List MemPlace) (hval : ∀ (j : Nat) t v, Tryd.f6.params[j]? = some t → args[j]? = some v → Value.okWide Tryd.prog W .any base t v)
    (hA : DataW.TrodAll enc Tryd.prog W 0 (fun _ => true) true Tryd.f6.params.toList args.toList ds p) (_hlt : ∀ x ∈ p, x.block < W.heap.size) (hL : laidMetH Tryd.prog Rows.crcTurnsRow.laid W) :
    Calls Tryd.prog 6 args W fun e w' => e = .returned (.bool true) ∧ Below W.heap.size W w' := by
  rw [Tryd.params6] at hA hval
  obtain ⟨v0, v1, v2, d0, d1, d2, p0, p1, p2, rfl, rfl, rfl, h0, h1, h2⟩ := trodAll_three hA
  obtain ⟨A, n, c, rfl⟩ := okWide_slice Tryd.underlying23 (hval 0 23 v0 rfl rfl)
  obtain ⟨t, rfl, rfl, rfl, wc⟩ := open_int Tryd.underlying3 (hval 1 3 v1 rfl rfl) h1
  obtain ⟨y0, y1, y2, y3, rfl⟩ := open_four (hval 2 34 v2 rfl rfl) h2
  obtain ⟨l, hn, _, _, hR⟩ := open_bytes h0
  have hh := half_at hL
  by_cases h6 : l.length ≤ 1000
  · exact crcTurns_yes l A n c t y0 y1 y2 y3 W hn.symm h6 hR hh
  · exact crcTurns_no n c A t y0 y1 y2 y3 W (by omega) hh

set_option maxRecDepth 100000 in
theorem crcTurns_holds : Rows.CrcTurnsSaid :=
  OpenClaim.holds_of_wide 6 Tryd.f6 rfl rfl rfl rfl rfl rfl rfl ⟨rfl, rfl, rfl, rfl, rfl⟩ rfl rfl rfl rfl rfl (by kernel_rfl) Tryd.func6 (by kernel_rfl)
    (of_decide_eq_true (by kernel_rfl)) (by unfold Func.isWrapper; first | (rw [if_pos (by decide +kernel)]; kernel_rfl) | (rw [if_neg (by decide +kernel)]; exact ⟨rfl, rfl⟩))
    (fun os started H enc _ => lift_laid started (s := Rows.crcTurnsSpec) #[.slice none 0 0, .int .i64 0, .agg #[.int .u8 0, .int .u8 0, .int .u8 0, .int .u8 0]] 400 (by kernel_rfl) Tryd.func6 (by kernel_rfl) rfl rfl
      (fun H ds h => by
        match ds, h with
        | [d0, d1, d2], _ => rfl)
      (World.shaped_of_RefB (by kernel_rfl) (by kernel_rfl)) (by kernel_rfl) (by kernel_rfl) (by kernel_rfl)
      (laidMetH_of_parts3 (fuel := 8) (laidMet_of_run' 8 (by kernel_rfl) (by kernel_rfl)) (by kernel_rfl) (by kernel_rfl)) rfl
      (fun W base args ds p h1 h2 h3 h4 => crcTurns_walk W base args ds p h1 h2 h3 h4))

theorem crcTurns_card_holds : Rows.CrcTurnsCardSaid :=
  Claim7.holds_tied_plain_at .later [] [.data] true Rows.crcTurnsCard.stood.harness false
    crcTurns_holds (fun _ h => by cases h) (by kernel_rfl) (fun _ h => by cases h) crcTurns_row_tie rfl ⟨rfl, rfl⟩ (by kernel_rfl) rfl
    (fun f fn hf hfn => by
      obtain rfl : f = 6 := Option.some.inj ((show Tryd.prog.funcNamed Rows.crcTurnsRow.func = some 6 by kernel_rfl).symm.trans hf) |>.symm
      obtain rfl : fn = Tryd.f6 := (Option.some.inj (Tryd.func6.symm.trans hfn)).symm
      exact ⟨by kernel_rfl, fun j t ht => by
        rw [Tryd.params6] at ht
        have hm : t ∈ [23, 3, 34] := by simpa using Array.mem_of_getElem? ht
        have hall : ([23, 3, 34].all fun u => !Tryd.prog.wantsStandIn u) = true := by kernel_rfl
        exact (show Tryd.prog.wantsStandIn t = false by simpa using List.all_eq_true.1 hall t hm)⟩)
    (by kernel_rfl)
#print axioms crcTurns_card_holds
end Go.Proofs.YtenhjnicadjbaaaDoor
