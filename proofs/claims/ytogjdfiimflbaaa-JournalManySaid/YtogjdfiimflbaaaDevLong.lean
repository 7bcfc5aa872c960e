/-
  Long loads by conditional laws that go ahead of the unrolling: the cells that lie there, as a term. Conditions: the cells are there.
-/
import Derived.Test.YtogjdfiimflbaaaDevCells
import Derived.OrdersHeld
namespace Go.Proofs.Ytogjdfiimflbaaa
open Go Go.RowKit

def hasAt (W : World) (b o n : Nat) : Bool := (List.range n).all fun j => (W.cell? ⟨b, o + j, none⟩).isSome
def cellsAt (W : World) (b o n : Nat) : List Value := (List.range n).map fun j => (W.cell? ⟨b, o + j, none⟩).getD undef
theorem cellsAt_len (W : World) (b o n : Nat) : (cellsAt W b o n).length = n := by simp [cellsAt]
theorem cellsAt_range {W : World} {b o n : Nat} (h : hasAt W b o n = true) : W.rangeAt b o (cellsAt W b o n) := fun j v hv => by
  have hj : j < n := by have := (List.getElem?_eq_some_iff.1 hv).1; rwa [cellsAt_len] at this
  have hs := List.all_eq_true.1 h j (List.mem_range.2 hj)
  rw [cellsAt, List.getElem?_map, List.getElem?_range hj] at hv
  obtain ⟨u, hu⟩ := Option.isSome_iff_exists.1 hs
  rw [← hv, hu]
  simp [hu]
theorem hasAt_of {W : World} {b o : Nat} {cs : List Value} (h : W.rangeAt b o cs) : hasAt W b o cs.length = true := List.all_eq_true.2 fun j hj => by
  have hj := List.mem_range.1 hj
  rw [h j _ (List.getElem?_eq_getElem hj)]
  rfl
theorem cellsAt_of {W : World} {b o : Nat} {cs : List Value} (h : W.rangeAt b o cs) : cellsAt W b o cs.length = cs := by
  apply List.ext_getElem?
  intro k
  by_cases hk : k < cs.length
  · rw [cellsAt, List.getElem?_map, List.getElem?_range hk, List.getElem?_eq_getElem hk]
    simp [h k _ (List.getElem?_eq_getElem hk)]
  · rw [List.getElem?_eq_none (by rw [cellsAt_len]; omega), List.getElem?_eq_none (by omega)]

theorem load_wr_at {W : World} {b o : Nat} (h : hasAt W b o 65 = true) : (Instr.loadAt 79 (.pointer (some ⟨b, o, none⟩))).run Try.prog W = .ok (.agg (cellsAt W b o 65).toArray) W := by
  obtain ⟨fs, he⟩ := wr_desc
  exact run_loadAt_mid W b o _ _ _ (cellsAt_range h) he rfl (by rw [wr_size, cellsAt_len])
theorem load_sec_at {W : World} {b o : Nat} (h : hasAt W b o 64 = true) : (Instr.loadAt 77 (.pointer (some ⟨b, o, none⟩))).run Try.prog W = .ok (.agg (cellsAt W b o 64).toArray) W := by
  obtain ⟨e, he⟩ := sec_desc
  exact run_loadAt_mid W b o _ _ _ (cellsAt_range h) he rfl (by rw [sec_info, cellsAt_len])

/-- the row of a block; are so many cells of it there, to be written? -/
def rowOf (W : World) (b : Nat) : List Value := match W.heap[b]? with
  | some (.cells c _ _) => c.toList
  | _ => []
def canAt (W : World) (b o n : Nat) : Bool := match W.heap[b]? with
  | some (.cells c _ (0, 0)) => decide (o + n ≤ c.size)
  | _ => false
theorem rowOf_blk {W : World} {b : Nat} {t : TypeId} {cur : Array Value} (h : Blk W b t cur) : rowOf W b = cur.toList := by
  unfold rowOf
  rw [show W.heap[b]? = _ from h]
theorem canAt_blk {W : World} {b o n : Nat} {t : TypeId} {cur : Array Value} (h : Blk W b t cur) (hf : o + n ≤ cur.size) : canAt W b o n = true := by
  unfold canAt
  rw [show W.heap[b]? = _ from h]
  exact decide_eq_true hf
theorem store_sec_at {W : World} {b o : Nat} {cs : List Value} (h : canAt W b o 64 = true) (hl : cs.length = 64) (h1 : cs.all (·.oneCell') = true) :
    (Instr.storeAt 77 (.pointer (some ⟨b, o, none⟩)) (.agg cs.toArray)).run Try.prog W = .ok () (W.setRow b ((rowOf W b).take o ++ cs ++ (rowOf W b).drop (o + 64)).toArray) := by
  unfold canAt at h
  split at h
  · rename_i c t hb
    have hfit : o + 64 ≤ c.size := of_decide_eq_true h
    have := run_storeCells_at (P := Try.prog) b o t cs 0 c W hb (by omega) (fun v hv => List.all_eq_true.1 h1 v hv)
    rw [Nat.add_zero, hl] at this
    obtain ⟨i, hi, he⟩ := Option.map_eq_some_iff.1 sec_info
    rw [rowOf_blk (t := t) (cur := c) hb]
    simp [Instr.storeAt, Instr.sureAddr, storeVar, sizeOf, typeInfo, hi, Value.cells, he, hl, this]
  · cases h
theorem frozD {w : World} {a : Addr} {b : Bool} (h : w.frozen? a = b) : w.drew.frozen? a = b := h
theorem frozO {w : World} {o : Obj} {g i : Nat} {v : Value} {b : Bool} (hc : w.cell? ⟨g, i, none⟩ = some v) (h : w.frozen? ⟨g, i, none⟩ = b) : (w.alloc o).frozen? ⟨g, i, none⟩ = b := by
  rw [World.frozen?_alloc_past _ _ _ (World.block_lt_of_cell? w _ hc)]
  exact h
section
variable {P : Program} {ops : Array Oper} {Q : Exit → Act → World → Prop} {md : Region.Mode} {fuel : Nat} {listed : Array Bool} {a : Act} {w : World}
theorem wpOp_of {i : Nat} {o : Oper} {K : Act → World → Prop} (hi : ops[i]? = some o) (hw : Region.wanted o (yielded ops a.tmps) = true) (h : o.wp P a w K Q) : wpOp P ops Q i K a w := by
  unfold wpOp
  simp only [hi]
  rw [if_pos hw]
  exact .inl h
/-- one operation alone may come up -/
theorem anyT_one (i : Nat) {o : Oper} (hr : Region.ready md ops listed = [i]) (hi : ops[i]? = some o) (hw : Region.wanted o (yielded ops a.tmps) = true)
    (h : o.wp P a w (fun a' w' => wpAnyH P md ops Q (fun _ => True) fuel (listed.setIfInBounds i true) a' w') Q) : wpAnyH P md ops Q (fun _ => True) (fuel + 1) listed a w :=
  wpAnyH_all hr (by simp) fun k hk => by
    obtain rfl : k = i := by simpa using hk
    exact wpOp_mono (fun _ _ hh => ⟨trivial, hh⟩) (wpOp_of hi hw h)
/-- two may come up -/
theorem anyT_two (i j : Nat) {o u : Oper} (hr : Region.ready md ops listed = [i, j]) (hi : ops[i]? = some o) (hj : ops[j]? = some u) (hw : Region.wanted o (yielded ops a.tmps) = true) (hv : Region.wanted u (yielded ops a.tmps) = true)
    (h : o.wp P a w (fun a' w' => wpAnyH P md ops Q (fun _ => True) fuel (listed.setIfInBounds i true) a' w') Q)
    (k : u.wp P a w (fun a' w' => wpAnyH P md ops Q (fun _ => True) fuel (listed.setIfInBounds j true) a' w') Q) : wpAnyH P md ops Q (fun _ => True) (fuel + 1) listed a w :=
  wpAnyH_all hr (by simp) fun x hx => by
    rcases List.mem_cons.1 hx with rfl | hx
    · exact wpOp_mono (fun _ _ hh => ⟨trivial, hh⟩) (wpOp_of hi hw h)
    · obtain rfl : x = j := by simpa using hx
      exact wpOp_mono (fun _ _ hh => ⟨trivial, hh⟩) (wpOp_of hj hv k)
end
end Go.Proofs.Ytogjdfiimflbaaa
