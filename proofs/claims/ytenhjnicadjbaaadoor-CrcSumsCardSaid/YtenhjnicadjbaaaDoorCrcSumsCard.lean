/-
  CrcSums: for every input the call returns true; each argument reads afterwards as it read before. Condition: the listed variable icehouse/crc.half reads as the program's text lays it (tied by the card).
-/
import Derived.Test.YtenhjnicadjbaaaDoorCrcSums
import Derived.Test.YtenhjnicadjbaaaDoorLift
import Derived.Test.YtenhjnicadjbaaaDoorCards
import Derived.Test.YtenhjnicadjbaaaDoorTie
import Derived.SevenTiedAt
namespace Go.Proofs.YtenhjnicadjbaaaDoor
open Go Go.RowKit Go.ChangeShapes Go.WideShapes

set_option maxRecDepth 100000 in
theorem crcSums_walk {H : Type} {enc : TypeId × Value → H} (W : World) (base : Nat) (args : Array Value) (ds : List (DataW H)) (p : List MemPlace) (hval : ∀ (j : Nat) t v, Tryd.f3.params[j]? = some t → args[j]? = some v → Value.okWide Tryd.prog W .any base t v)
    (hA : DataW.TrodAll enc Tryd.prog W 0 (fun _ => true) true Tryd.f3.params.toList args.toList ds p) (_hlt : ∀ x ∈ p, x.block < W.heap.size) (hL : laidMetH Tryd.prog Rows.crcSumsRow.laid W) :
    Calls Tryd.prog 3 args W fun e w' => e = .returned (.bool true) ∧ Below W.heap.size W w' := by
  rw [Tryd.params3] at hA hval
  obtain ⟨v0, v1, d0, d1, p0, p1, rfl, rfl, rfl, h0, h1⟩ := trodAll_two hA
  obtain ⟨A, n, c, rfl⟩ := okWide_slice Tryd.underlying22 (hval 0 22 v0 rfl rfl)
  obtain ⟨cut, rfl, rfl, rfl, wc⟩ := open_int Tryd.underlying3 (hval 1 3 v1 rfl rfl) h1
  obtain ⟨ls, hn, _, _, hR⟩ := open_byte_rows h0
  have hb := bounds_i64 wc
  have hh := half_at hL
  cases hf : fits ls with
  | true => exact crcSums_yes ls A n c cut W hn.symm hf hb.1 hb.2 hR hh
  | false => exact crcSums_no ls A n c cut W hn.symm hf hR hh

set_option maxRecDepth 100000 in
theorem crcSums_holds : Rows.CrcSumsSaid :=
  OpenClaim.holds_of_wide 3 Tryd.f3 rfl rfl rfl rfl rfl rfl rfl ⟨rfl, rfl, rfl, rfl, rfl⟩ rfl rfl rfl rfl rfl (by kernel_rfl) Tryd.func3 (by kernel_rfl)
    (of_decide_eq_true (by kernel_rfl)) (by unfold Func.isWrapper; first | (rw [if_pos (by decide +kernel)]; kernel_rfl) | (rw [if_neg (by decide +kernel)]; exact ⟨rfl, rfl⟩))
    (fun os started H enc _ => lift_laid started (s := Rows.crcSumsSpec) #[.slice none 0 0, .int .i64 0] 400 (by kernel_rfl) Tryd.func3 (by kernel_rfl) rfl rfl
      (fun H ds h => by
        match ds, h with
        | [d1, d2], _ => rfl)
      (World.shaped_of_RefB (by kernel_rfl) (by kernel_rfl)) (by kernel_rfl) (by kernel_rfl) (by kernel_rfl)
      (laidMetH_of_parts3 (fuel := 8) (laidMet_of_run' 8 (by kernel_rfl) (by kernel_rfl)) (by kernel_rfl) (by kernel_rfl)) rfl
      (fun W base args ds p h1 h2 h3 h4 => crcSums_walk W base args ds p h1 h2 h3 h4))

theorem crcSums_card_holds : Rows.CrcSumsCardSaid :=
  Claim7.holds_tied_plain_at .later [] [.data] true (true, "3e40f8dc2effc5cc3db0a32ec056b4d5cb14b2988d990a5918d78f66881aa580") false
    crcSums_holds (fun _ h => by cases h) (by kernel_rfl) (fun _ h => by cases h) crcSums_row_tie rfl ⟨rfl, rfl⟩ (by kernel_rfl) rfl
    (fun f fn hf hfn => by
      obtain rfl : f = 3 := Option.some.inj ((show Tryd.prog.funcNamed Rows.crcSumsRow.func = some 3 by kernel_rfl).symm.trans hf) |>.symm
      obtain rfl : fn = Tryd.f3 := (Option.some.inj (Tryd.func3.symm.trans hfn)).symm
      exact ⟨by kernel_rfl, fun j t ht => by
        rw [Tryd.params3] at ht
        have hm : t ∈ [22, 3] := by simpa using Array.mem_of_getElem? ht
        have hall : ([22, 3].all fun u => !Tryd.prog.wantsStandIn u) = true := by kernel_rfl
        exact (show Tryd.prog.wantsStandIn t = false by simpa using List.all_eq_true.1 hall t hm)⟩)
    (by kernel_rfl)
#print axioms crcSums_card_holds
end Go.Proofs.YtenhjnicadjbaaaDoor
