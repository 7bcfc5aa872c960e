/-
  Opening four integers and a crash. No condition.
-/
import Derived.Test.YtenhjnicadjbaaaLift
import Derived.Test.YtenhjnicadjbaaaDevCrash
import Derived.Deep.Grids
import Derived.Lib.SmallJoins
namespace Go.Proofs.Ytenhjnicadjbaaa
open Go Go.RowKit Go.ChangeShapes Go.WideShapes

theorem okWide_arr {P : Program} {W : World} {r : Reach} {b0 n : Nat} {t e : TypeId} {v : Value} (ht : P.underlying t = some (.array n e)) (h : Value.okWide P W r b0 t v) : ∃ cs, v = .agg cs ∧ cs.size = P.cellsOf t := by
  simp only [Value.okWide, ht] at h
  obtain ⟨cs, h1, h2, _⟩ := h
  exact ⟨cs, h1, h2⟩
set_option maxRecDepth 100000 in
theorem open_int4 {H : Type} {enc : TypeId × Value → H} {W : World} {b0 : Nat} {v : Value} {d : DataW H} {p : List MemPlace} (hv : Value.okWide Try.prog W .any b0 22 v)
    (h : DataW.Trod enc Try.prog W 0 (fun _ => true) true 22 v d p) : ∃ y0 y1 y2 y3 : Int, v = .agg #[.int .i64 y0, .int .i64 y1, .int .i64 y2, .int .i64 y3] := by
  obtain ⟨cs, rfl, hsz⟩ := okWide_arr Try.underlying22 hv
  have c4 : Try.prog.cellsOf 22 = 4 := by kernel_rfl
  have c1 : Try.prog.cellsOf 3 = 1 := by kernel_rfl
  rw [c4] at hsz
  obtain ⟨l⟩ := cs
  match l, hsz with
  | [a, b, c, e], _ =>
    obtain ⟨fuel, hf⟩ := h
    obtain ⟨xs, m, _, _, _, hlen, hel⟩ := DataW.trod_array Try.underlying22 hf
    rw [c1] at hel
    have one : ∀ i u, i < 4 → ([a, b, c, e].drop (i * 1)).take 1 = [u] → ∃ y : Int, u = .int .i64 y := fun i u hi hu => by
      have := hel i hi
      have hcs : (Value.agg ⟨[a, b, c, e]⟩).cells.toList = [a, b, c, e] := rfl
      rw [hcs, hu, List.getElem?_eq_getElem (by omega)] at this
      obtain ⟨z, e1, _, e3⟩ := DataW.trod_int Try.underlying3 this
      exact ⟨z, by simpa using e1⟩
    obtain ⟨y0, rfl⟩ := one 0 a (by omega) rfl
    obtain ⟨y1, rfl⟩ := one 1 b (by omega) rfl
    obtain ⟨y2, rfl⟩ := one 2 c (by omega) rfl
    obtain ⟨y3, rfl⟩ := one 3 e (by omega) rfl
    exact ⟨y0, y1, y2, y3, rfl⟩

set_option maxRecDepth 100000 in
theorem open_crash {H : Type} {enc : TypeId × Value → H} {W : World} {b0 : Nat} {v : Value} {d : DataW H} {p : List MemPlace} (hv : Value.okWide Try.prog W .any b0 25 v)
    (h : DataW.Trod enc Try.prog W 0 (fun _ => true) true 25 v d p) :
    ∃ (A : Option Addr) (c : Nat) (torn P : Int) (keep : List Bool), v = .agg #[.slice A keep.length c, .int .i64 torn, .int .i64 P] ∧ Reads W W.heap.size 1 A keep.length (bools keep) := by
  obtain ⟨v0, v1, v2, y0, y1, y2, n, rfl, _, _, h0, h1, h2⟩ := Go.Joins.open_agg3 Try.underlying25 (by kernel_rfl) (by kernel_rfl) hv h
  obtain ⟨x1, e1, _, _⟩ := DataW.trod_int Try.underlying3 h1
  obtain ⟨x2, e2, _, _⟩ := DataW.trod_int Try.underlying3 h2
  obtain rfl : v1 = .int .i64 x1 := by simpa using e1
  obtain rfl : v2 = .int .i64 x2 := by simpa using e2
  rcases Go.Deep.open_bools Try.underlying23 Try.underlying4 (by kernel_rfl) h0 with ⟨hcs, _⟩ | ⟨a, len, cap, B, hcs, _, hl, hm, _, hcell⟩
  · obtain rfl : v0 = .slice none 0 0 := by simpa using hcs
    exact ⟨none, 0, x1, x2, [], rfl, Reads.none_⟩
  · obtain rfl : v0 = .slice (some a) len cap := by simpa using hcs
    have hlen : ((List.range len).map B).length = len := by simp
    refine ⟨some a, cap, x1, x2, (List.range len).map B, by rw [hlen], by simp [bools], fun h0 => ?_⟩
    rw [hlen] at h0
    refine ⟨a, rfl, ?_, fun j u hu => ?_⟩
    · have := World.block_lt_of_cell? W _ (hcell 0 (by omega))
      rwa [block_of_add] at this
    · have hj : j < len := by
        have := (List.getElem?_eq_some_iff.1 hu).1
        simpa [bools] using this
      rw [hcell j (by omega), ← hu]
      simp [bools, hj]
end Go.Proofs.Ytenhjnicadjbaaa
