/-
  What operations of a drawn region run to; results that lie in a block. Conditions: each theorem's own.
-/
import Derived.Test.YtogjdfiimflbaaaTail
import Derived.Test.YtogjdfiimflbaaaJrMem
namespace Go.Proofs.Ytogjdfiimflbaaa
open Go Go.RowKit

section
variable {P : Program}
theorem exec_load {o : Oper} {a : Act} {w : World} {x v : Value} (ty : TypeId) (p : Operand) (ho : o.op = .load ty p) (hl : (Instr.loadAt ty x).run P w = .ok v w) (hx : a.eval p = x) : (execOp a.eval o).run P w = .ok (.value v) w := by
  unfold execOp
  simp only [ho, hx, Sem.run_bind, hl, Result.andThen_ok, Sem.run_pure]
theorem exec_slice {o : Oper} {a : Act} {w w' : World} {v y : Value} (ty : TypeId) (x : Operand) (ho : o.op = .buildSlice ty 1 #[(0, x)]) (hs : (Instr.buildSlice ty 1 #[(0, y)]).run P w = .ok v w') (hx : a.eval x = y) : (execOp a.eval o).run P w = .ok (.value v) w' := by
  unfold execOp
  simp only [ho, List.map_toArray, List.map_cons, List.map_nil, hx, Sem.run_bind, hs, Result.andThen_ok, Sem.run_pure]
theorem results_cell {fn : Func} {a : Tmp} {ty : TypeId} (h : fn.results = #[.cell a ty]) {tmps : Array Value} {w : World} {g : Nat} {v : Value} (hl : (loadVar ty ⟨g, 0, none⟩).run P w = .ok v w) (ha : tmps.getD a undef = .pointer (some ⟨g, 0, none⟩)) :
    (results fn tmps).run P w = .ok v w := by
  have ha' : tmps[a]?.getD undef = .pointer (some ⟨g, 0, none⟩) := by simpa using ha
  simp [results, h, asAddr, ha', hl]
theorem results_cell_tmp {fn : Func} {a t : Tmp} {ty : TypeId} (h : fn.results = #[.cell a ty, .tmp t]) {tmps : Array Value} {w : World} {g : Nat} {v : Value} (hl : (loadVar ty ⟨g, 0, none⟩).run P w = .ok v w) (ha : tmps.getD a undef = .pointer (some ⟨g, 0, none⟩)) :
    (results fn tmps).run P w = .ok (.tuple #[v, tmps.getD t undef]) w := by
  have ha' : tmps[a]?.getD undef = .pointer (some ⟨g, 0, none⟩) := by simpa using ha
  simp [results, h, asAddr, ha', hl]
end
end Go.Proofs.Ytogjdfiimflbaaa
