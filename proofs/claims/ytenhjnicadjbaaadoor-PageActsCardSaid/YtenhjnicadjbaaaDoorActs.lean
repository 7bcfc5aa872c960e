/-
  The acts of icehouselaw14.PageActs as they lie in memory. Conditions: each theorem's own.
-/
import Derived.Test.YtenhjnicadjbaaaDoorRefMem
import Derived.Test.YtenhjnicadjbaaaDoorDevCrash
import Derived.Test.YtenhjnicadjbaaaDoorTail
import Derived.Deep.WholeRow
namespace Go.Proofs.YtenhjnicadjbaaaDoor
open Go Go.RowKit

structure AV where
  dv : Int
  at_ : Int
  kind : Int
  body : List UInt8
  Ab : Option Addr
  cb : Nat
  x : UInt8
  calls : List Int
  Ac : Option Addr
  cc : Nat
  keep : List Bool
  Ak : Option Addr
  ck : Nat
  torn : Int
  part : Int
def AV.cells (a : AV) : List Value := [.int .i64 a.dv, .int .i64 a.at_, .int .i64 a.kind, .slice a.Ab a.body.length a.cb, .int .u8 (a.x.toNat : Int), .slice a.Ac a.calls.length a.cc, .slice a.Ak a.keep.length a.ck, .int .i64 a.torn, .int .i64 a.part]
structure AV.Lies (W : World) (B : Nat) (a : AV) : Prop where
  bodyc : a.body.length ≤ a.cb
  body : BytesAt W B a.Ab a.body
  calls : Reads W B 1 a.Ac a.calls.length (ints a.calls)
  keep : Reads W B 1 a.Ak a.keep.length (bools a.keep)
def ActsAt (W : World) (B : Nat) (A : Option Addr) (vs : List AV) : Prop :=
  0 < vs.length → ∃ ad, A = some ad ∧ ad.block < B ∧ ∀ (i : Nat) (h : i < vs.length), (∀ k < 9, W.cell? (ad.add (i * 9 + k)) = vs[i].cells[k]?) ∧ vs[i].Lies W B
theorem AV.Lies.below {W W' : World} {B : Nat} {a : AV} (h : a.Lies W B) (hb : Below B W W') : a.Lies W' B :=
  ⟨h.bodyc, h.body.lift hb (Nat.le_refl _), h.calls.below hb, h.keep.below hb⟩
theorem ActsAt.below {W W' : World} {B : Nat} {A : Option Addr} {vs : List AV} (h : ActsAt W B A vs) (hb : Below B W W') : ActsAt W' B A vs := fun hp => by
  obtain ⟨ad, rfl, hlt, hc⟩ := h hp
  refine ⟨ad, rfl, hlt, fun i hi => ⟨fun k hk => ?_, (hc i hi).2.below hb⟩⟩
  rw [← (hc i hi).1 k hk]
  exact hb.cell (by rw [block_of_add]; exact hlt)

theorem act_info : (Tryd.prog.info? 65).map (·.size) = some 9 := by kernel_rfl
theorem act_desc : ∃ fs, Tryd.prog.underlying 65 = some (.struct fs) := ⟨_, Tryd.underlying65⟩
theorem load_act (W : World) (a : Addr) (v : AV) (h : ∀ k < 9, W.cell? (a.add k) = v.cells[k]?) : (Instr.loadAt 65 (.pointer (some a))).run Tryd.prog W = .ok (.agg v.cells.toArray) W := by
  obtain ⟨fs, hu⟩ := act_desc
  have hl : (loadCells a 9).run Tryd.prog W = .ok v.cells.toArray W :=
    run_loadCells_list (P := Tryd.prog) W a v.cells (fun j u hu => by
      have : j < 9 := (List.getElem?_eq_some_iff.1 hu).1
      rw [h j this]
      exact hu)
  obtain ⟨i, hq, hs⟩ := Option.map_eq_some_iff.1 act_info
  have hagg : (isAgg 65).run Tryd.prog W = .ok true W := by
    unfold isAgg
    rw [Sem.run_bind, run_underlying hu W]
    rfl
  simp [Instr.loadAt, Instr.sureAddr, loadVar, Sem.run_bind, hagg, sizeOf, typeInfo, hq, hs, hl]
theorem store_act (W : World) (v : AV) (Z : Array Value) (hZ : Z.size = 9) : (Instr.storeAt 65 (.pointer (some ⟨W.heap.size, 0, none⟩)) (.agg v.cells.toArray)).run Tryd.prog (W.alloc (.cells Z 65)) = .ok () (W.alloc (.cells v.cells.toArray 65)) :=
  run_storeAt_new W _ Z v.cells.toArray act_info hZ (all_oneCell_toArray fun u hu => by
    simp only [AV.cells, List.mem_cons, List.not_mem_nil, or_false] at hu
    rcases hu with rfl | rfl | rfl | rfl | rfl | rfl | rfl | rfl | rfl <;> rfl)
theorem wpList_load_run {P : Program} {ops : Array Oper} {rest : List Oper} {o : Oper} {a : Act} {w : World} {Q : Exit → Act → World → Prop} {X v : Value} (hgd : o.guard = none) (ty : TypeId) (x : Operand) (ho : o.op = .load ty x) (hx : a.eval x = X)
    (hs : (Instr.loadAt ty X).run P w = .ok v w) (h : wpList P ops Q rest (a.put o.dst v) w) : wpList P ops Q (o :: rest) a w :=
  wpList_plain hgd fun _ hK => by
    unfold Oper.wp execOp
    simp only [ho, hx, Sem.run_bind, hs, Result.andThen_ok, Sem.run_pure]
    exact hK _ _ h
/-- the act in its own block -/
def ActBlk (W : World) (q : Nat) (v : AV) : Prop := Blk W q 65 v.cells.toArray
theorem ActBlk.all {W : World} {q : Nat} {v : AV} (h : ActBlk W q v) : W.cell? ⟨q, 0, none⟩ = some (.int .i64 v.dv) ∧ W.cell? ⟨q, 1, none⟩ = some (.int .i64 v.at_) ∧ W.cell? ⟨q, 2, none⟩ = some (.int .i64 v.kind) ∧ W.cell? ⟨q, 3, none⟩ = some (.slice v.Ab v.body.length v.cb) ∧
    W.cell? ⟨q, 4, none⟩ = some (.int .u8 (v.x.toNat : Int)) ∧ W.cell? ⟨q, 5, none⟩ = some (.slice v.Ac v.calls.length v.cc) ∧ W.cell? ⟨q, 6, none⟩ = some (.slice v.Ak v.keep.length v.ck) ∧ W.cell? ⟨q, 7, none⟩ = some (.int .i64 v.torn) ∧ W.cell? ⟨q, 8, none⟩ = some (.int .i64 v.part) :=
  ⟨Blk.cell h 0, Blk.cell h 1, Blk.cell h 2, Blk.cell h 3, Blk.cell h 4, Blk.cell h 5, Blk.cell h 6, Blk.cell h 7, Blk.cell h 8⟩
end Go.Proofs.YtenhjnicadjbaaaDoor
