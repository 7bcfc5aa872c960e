/-
  Opening a pair of integers. No condition.
-/
import Derived.Test.YtenhjnicadjbaaaDoorLift
namespace Go.Proofs.YtenhjnicadjbaaaDoor
open Go Go.RowKit Go.ChangeShapes Go.WideShapes

set_option maxRecDepth 100000 in
theorem open_two {H : Type} {enc : TypeId × Value → H} {W : World} {b0 : Nat} {v : Value} {d : DataW H} {p : List MemPlace} (hv : Value.okWide Tryd.prog W .any b0 40 v)
    (h : DataW.Trod enc Tryd.prog W 0 (fun _ => true) true 40 v d p) : ∃ y0 y1 : Int, v = .agg #[.int .i64 y0, .int .i64 y1] := by
  obtain ⟨cs, rfl, hsz⟩ := okWide_array4 Tryd.underlying40 hv
  have c4 : Tryd.prog.cellsOf 40 = 2 := by kernel_rfl
  have c1 : Tryd.prog.cellsOf 3 = 1 := by kernel_rfl
  rw [c4] at hsz
  obtain ⟨l⟩ := cs
  match l, hsz with
  | [a, b], _ =>
    obtain ⟨fuel, hf⟩ := h
    obtain ⟨xs, m, _, _, _, hlen, hel⟩ := DataW.trod_array Tryd.underlying40 hf
    rw [c1] at hel
    have one : ∀ i u, i < 2 → ([a, b].drop (i * 1)).take 1 = [u] → ∃ y : Int, u = .int .i64 y := fun i u hi hu => by
      have := hel i hi
      have hcs : (Value.agg ⟨[a, b]⟩).cells.toList = [a, b] := rfl
      rw [hcs, hu, List.getElem?_eq_getElem (by omega)] at this
      obtain ⟨z, e1, _, e3⟩ := DataW.trod_int Tryd.underlying3 this
      exact ⟨z, by simpa using e1⟩
    obtain ⟨y0, rfl⟩ := one 0 a (by omega) rfl
    obtain ⟨y1, rfl⟩ := one 1 b (by omega) rfl
    exact ⟨y0, y1, rfl⟩

end Go.Proofs.YtenhjnicadjbaaaDoor
