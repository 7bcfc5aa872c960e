/-
  Steps of a region that draws its order whose last operation alone writes: loads and stores by what they run to. Conditions: each step's own.
-/
import Derived.Test.YtenhjnicadjbaaaDevLong
import Derived.StillTailTactics
namespace Go.Proofs.Ytenhjnicadjbaaa
open Go Go.RowKit

section
variable {P : Program} {ops : Array Oper} {w : World} {a : Act} {o : Oper} {rest : List Oper}
theorem wpStill_run {Q : Act → Prop} {v : Value} (hgd : o.guard = none) (hr : (execOp a.eval o).run P w = .ok (.value v) w) (h : wpStill P ops w Q rest (a.put o.dst v)) : wpStill P ops w Q (o :: rest) a := by
  unfold wpStill
  rw [if_pos (by simp [Region.wanted, hgd])]
  unfold Oper.still
  rw [hr]
  exact (Oper.stillUpon_value ..).mpr h
theorem wpStill_load {Q : Act → Prop} {v x : Value} (hgd : o.guard = none) (ty : TypeId) (p : Operand) (ho : o.op = .load ty p) (hx : a.eval p = x) (hl : (Instr.loadAt ty x).run P w = .ok v w) (h : wpStill P ops w Q rest (a.put o.dst v)) : wpStill P ops w Q (o :: rest) a :=
  wpStill_run hgd (by
    unfold execOp
    simp only [ho, hx, Sem.run_bind, hl, Result.andThen_ok, Sem.run_pure]) h
theorem wpList_store_run {Q : Exit → Act → World → Prop} {X Y : Value} {w' : World} (hgd : o.guard = none) (ty : TypeId) (x y : Operand) (ho : o.op = .store ty x y) (hx : a.eval x = X) (hy : a.eval y = Y)
    (hs : (Instr.storeAt ty X Y).run P w = .ok () w') (h : wpList P ops Q rest (a.put o.dst undef) w') : wpList P ops Q (o :: rest) a w :=
  wpList_plain hgd fun _ hK => by
    unfold Oper.wp execOp
    simp only [ho, hx, hy, Sem.run_bind, hs, Result.andThen_ok, Sem.run_pure]
    exact hK _ _ h
theorem wpList_copy_run {Q : Exit → Act → World → Prop} {X Y v : Value} {w' : World} (hgd : o.guard = none) (t u : TypeId) (x y : Operand) (ho : o.op = .call { callee := .builtin .copy, args := #[x, y], argTypes := #[t, u] }) (hx : a.eval x = X) (hy : a.eval y = Y)
    (hs : (Builtin.copy_ #[t, u] o.type #[X, Y]).run P w = .ok v w') (h : wpList P ops Q rest (a.put o.dst v) w') : wpList P ops Q (o :: rest) a w :=
  wpList_plain hgd fun _ hK => by
    unfold Oper.wp execOp
    simp only [ho, resolve, invoke, builtin, Sem.run_bind, Sem.run_pure, Result.andThen_ok, List.map_toArray, List.map_cons, List.map_nil, hx, hy, hs]
    exact hK _ _ h
/-- the law of the kit's, the world behind the draw a letter -/
theorem region_tail {id : Nat} {Q : Exit → Act → World → Prop} {l : List Oper} (n : Nat) (hm : P.follows .mixedOrders = true) (hB : Region.lexTailB .any l.toArray n = true)
    (h : ∀ Y, Y = w.drew → wpStill P l.toArray Y (fun a' => wpList P l.toArray Q (l.drop n) a' Y) (l.take n) a) : (Code.region id l.toArray true).wp P Q a w :=
  wp_region_still_tail n hm hB (h _ rfl)
end
end Go.Proofs.Ytenhjnicadjbaaa
