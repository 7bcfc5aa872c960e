/-
  A waiting write as a value of sixty-five cells: built, laid in a slice, loaded, stored; a sector loaded and stored in the middle of a block. Conditions: each theorem's own.
-/
import Derived.Test.YtogjdfiimflbaaaDevRows
import Derived.Great.FillDense
import Derived.Great.BuildSlice
import Derived.Laws.Cover3
import Derived.Deep.RegionHeld3
import Derived.Deep.AppendLies
namespace Go.Proofs.Ytogjdfiimflbaaa
open Go Go.RowKit Go.Great

theorem fold_arr (cs : Array Value) (off : Nat) (cells : Array Value) : cs.zipIdx.foldl (fun acc (c, j) => acc.setIfInBounds (off + j) c) cells = (cs.toList.zipIdx 0).foldl (fun acc (x : Value × Nat) => acc.setIfInBounds (off + x.2) x.1) cells := by
  rw [← Array.foldl_toList, Array.toList_zipIdx]

def writeZero : Array Value := (Value.int .i64 0 :: byts (List.replicate 64 0)).toArray
theorem writeZero_size : writeZero.size = 65 := by simp [writeZero, byts]
theorem info_write : (Try.prog.info? 79).map (fun i => (i.zero, i.size)) = some (some (.agg writeZero), 65) := by kernel_rfl
theorem info_write3 : ∃ i z, Try.prog.info? 79 = some i ∧ i.zero = some z ∧ z.cells = writeZero ∧ i.size = 65 := by
  obtain ⟨i, hi, he⟩ := Option.map_eq_some_iff.1 info_write
  injection he with h1 h2
  exact ⟨i, _, hi, h1, rfl, h2⟩
theorem places_write : (match Try.prog.underlying 79 with | some (.struct fields) => fields.toList.mapM (fun f => (Try.prog.info? f.type).map fun i => (f.offset, i.size)) | _ => none) = some [(0, 1), (1, 64)] := by kernel_rfl
theorem struct_write : (match Try.prog.underlying 79 with | some (.struct _) => true | _ => false) = true := by kernel_rfl

set_option maxRecDepth 100000 in
theorem build_write (a : Nat) (s : List UInt8) (hs : s.length = 64) (W : World) :
    (Instr.build 79 #[(0, .int .i64 (a : Int)), (1, .agg (byts s).toArray)]).run Try.prog W = .ok (.agg (wcell (a, s)).toArray) W := by
  apply run_build
  obtain ⟨i, z, hi, hz, hzc, _⟩ := info_write3
  have hp := places_write
  unfold Program.built
  rw [hi]
  cases hu : Try.prog.underlying 79 with
  | none => rw [hu] at hp; cases hp
  | some d =>
    rw [hu] at hp
    cases d <;> try (cases hp; done)
    simp only at hp
    simp only [hz, hp]
    have e2 : Instr.fill (fun x => [(0, 1), (1, 64)].toArray[x]?) z.cells [(0, .int .i64 (a : Int)), (1, .agg (byts s).toArray)] = some (wcell (a, s)).toArray := by
      have hb : (byts s).length = 64 := by rw [byts_length, hs]
      have hzz : z.cells.size = 65 := by rw [hzc, writeZero_size]
      generalize z.cells = zc at *
      have c1 : (Value.int .i64 (a : Int)).cells = #[.int .i64 (a : Int)] := rfl
      have c2 : (Value.agg (byts s).toArray).cells = (byts s).toArray := rfl
      simp only [Instr.fill, List.getElem?_toArray, List.getElem?_cons_zero, List.getElem?_cons_succ, c1, c2]
      have n1 : ¬ (#[Value.int .i64 (a : Int)].size ≠ 1 ∨ 0 + #[Value.int .i64 (a : Int)].size > zc.size) := fun h => by
        rcases h with h | h
        · exact h rfl
        · rw [hzz] at h
          exact absurd (show (1 : Nat) > 65 from h) (by decide)
      have n2 : ¬ ((byts s).toArray.size ≠ 64 ∨ 1 + (byts s).toArray.size > (#[Value.int .i64 (a : Int)].zipIdx.foldl (fun acc (c, j) => acc.setIfInBounds (0 + j) c) zc).size) := by
        rw [fold_arr, (foldl_set 0 _ 0 zc).1, List.size_toArray, hb, hzz]
        omega
      simp only [Bool.or_eq_true, decide_eq_true_eq]
      rw [if_neg n1, if_neg n2]
      congr 1
      rw [fold_arr, fold_arr]
      apply Array.ext_getElem?
      intro k
      obtain ⟨s1, g1⟩ := foldl_set 0 [Value.int .i64 (a : Int)] 0 zc
      obtain ⟨s2, g2⟩ := foldl_set 1 (byts s) 0 (([Value.int .i64 (a : Int)].zipIdx 0).foldl (fun acc (x : Value × Nat) => acc.setIfInBounds (0 + x.2) x.1) zc)
      refine (g2 k).trans ?_
      rw [s1, hzz, hb]
      by_cases hk : 1 + 0 ≤ k ∧ k < 1 + 0 + 64 ∧ k < 65
      · rw [if_pos hk]
        obtain ⟨k', rfl⟩ : ∃ k', k = k' + 1 := ⟨k - 1, by omega⟩
        rw [show k' + 1 - (1 + 0) = k' by omega, List.getElem?_toArray]
        rfl
      · rw [if_neg hk, g1 k]
        by_cases h0 : k = 0
        · subst h0
          rw [if_pos (by simp; omega)]
          rfl
        · rw [if_neg (by simp; omega), Array.getElem?_eq_none (by omega), Array.getElem?_eq_none (by simp [wcell, hb]; omega)]
    exact e2

theorem wcell_len (e : Nat × List UInt8) (h : e.2.length = 64) : (wcell e).length = 65 := by simp [wcell, byts, h]
theorem wcell_one {e : Nat × List UInt8} : ∀ u ∈ wcell e, u.oneCell' = true := by
  intro u hu
  rcases List.mem_cons.1 hu with rfl | h
  · rfl
  · exact byts_one u h

set_option maxRecDepth 100000 in
/-- one write in a new slice -/
theorem slice_write (a : Nat) (s : List UInt8) (hs : s.length = 64) (W : World) :
    (Instr.buildSlice 52 1 #[(0, .agg (wcell (a, s)).toArray)]).run Try.prog W = .ok (.slice (some ⟨W.heap.size, 0, none⟩) 1 1) (W.alloc (.cells (wcell (a, s)).toArray 79)) := by
  obtain ⟨i, z, hi, hz, hzc, hsz⟩ := info_write3
  have hf := fill_whole (s := 65) (by omega) [.agg (wcell (a, s)).toArray] ((Array.range (1 * i.size)).map (z.cells[· % z.cells.size]!)) (fun v hv => by
    rw [List.mem_singleton.1 hv]
    show (wcell (a, s)).toArray.size = 65
    rw [List.size_toArray, wcell_len _ hs]) (by simp [hsz])
  refine run_buildSlice W _ 79 1 _ _ i z Try.underlying52 hi hz (by rw [hsz]; decide) (by rw [hsz]; decide) ?_
  rw [hsz] at hf ⊢
  refine hf.trans ?_
  simp [Value.cells]

theorem sec_info : (Try.prog.info? 77).map (·.size) = some 64 := by kernel_rfl
theorem sec_desc : ∃ e, Try.prog.underlying 77 = some (.array 64 e) := ⟨_, Try.underlying77⟩
theorem wr_size : (Try.prog.info? 79).map (·.size) = some 65 := by kernel_rfl
theorem wr_desc : ∃ fs, Try.prog.underlying 79 = some (.struct fs) := ⟨_, Try.underlying79⟩

/-- a sector loaded -/
theorem load_sec (W : World) (b o : Nat) (s : List UInt8) (hs : s.length = 64) (hc : W.rangeAt b o (byts s)) : (Instr.loadAt 77 (.pointer (some ⟨b, o, none⟩))).run Try.prog W = .ok (.agg (byts s).toArray) W := by
  obtain ⟨e, he⟩ := sec_desc
  exact run_loadAt_mid W b o _ (byts s) _ hc he rfl (by rw [sec_info, byts_length, hs])
theorem load_wr (W : World) (b o : Nat) (e : Nat × List UInt8) (hs : e.2.length = 64) (hc : W.rangeAt b o (wcell e)) : (Instr.loadAt 79 (.pointer (some ⟨b, o, none⟩))).run Try.prog W = .ok (.agg (wcell e).toArray) W := by
  obtain ⟨fs, he⟩ := wr_desc
  exact run_loadAt_mid W b o _ (wcell e) _ hc he rfl (by rw [wr_size, wcell_len e hs])

/-- sixty-four cells stored in the middle of a block -/
theorem store_sec (W : World) (b o : Nat) (t : TypeId) (cur : Array Value) (s : List UInt8) (hs : s.length = 64) (hb : Blk W b t cur) (hfit : o + 64 ≤ cur.size) :
    (Instr.storeAt 77 (.pointer (some ⟨b, o, none⟩)) (.agg (byts s).toArray)).run Try.prog W = .ok () (W.setRow b (cur.toList.take o ++ byts s ++ cur.toList.drop (o + 64)).toArray) := by
  have hl : (byts s).length = 64 := by rw [byts_length, hs]
  have := run_storeCells_at (P := Try.prog) b o t (byts s) 0 cur W hb (by omega) byts_one
  rw [Nat.add_zero, hl] at this
  obtain ⟨i, hi, he⟩ := Option.map_eq_some_iff.1 sec_info
  simp [Instr.storeAt, Instr.sureAddr, storeVar, sizeOf, typeInfo, hi, Value.cells, he, hl, this]
theorem store_wr_new (W : World) (e : Nat × List UInt8) (hs : e.2.length = 64) : (Instr.storeAt 79 (.pointer (some ⟨W.heap.size, 0, none⟩)) (.agg (wcell e).toArray)).run Try.prog (W.alloc (.cells writeZero 79)) = .ok () (W.alloc (.cells (wcell e).toArray 79)) := by
  refine run_storeAt_new W _ writeZero (wcell e).toArray (by rw [wr_size, List.size_toArray, wcell_len e hs]) (by rw [writeZero_size, List.size_toArray, wcell_len e hs]) ?_
  rw [Array.all_eq_true_iff_forall_mem]
  intro u hu
  exact wcell_one u (by simpa using hu)

theorem wpList_build_wr {ops : Array Oper} {rest : List Oper} {o : Oper} {a : Act} {w : World} {Q : Exit → Act → World → Prop} (hgd : o.guard = none) (x y : Operand) (ho : o.op = .build 79 #[(0, x), (1, y)])
    (k : Nat) (s : List UInt8) (kI : Int) (hx : a.eval x = .int .i64 kI) (hy : a.eval y = .agg (byts s).toArray) (hk : kI = (k : Int)) (hs : s.length = 64)
    (h : wpList Try.prog ops Q rest (a.put o.dst (.agg (wcell (k, s)).toArray)) w) : wpList Try.prog ops Q (o :: rest) a w :=
  wpList_plain hgd fun _ hK => by
    subst hk
    unfold Oper.wp execOp
    have := build_write k s hs w
    simp only [ho, List.map_toArray, List.map_cons, List.map_nil, hx, hy, Sem.run_bind, this, Result.andThen_ok]
    exact hK _ _ h
theorem wcell_all {e : Nat × List UInt8} : (wcell e).toArray.all (·.oneCell') = true := all_oneCell_toArray wcell_one
set_option maxRecDepth 100000 in
theorem zero_write (W : World) : (zeroValue 79).run Try.prog W = .ok (.agg writeZero) W := by
  obtain ⟨i, hi, he⟩ := Option.map_eq_some_iff.1 info_write
  injection he with h1 h2
  simp [zeroValue, typeInfo, hi, h1]
theorem cells_wr_new (W : World) (e : Nat × List UInt8) (hs : e.2.length = 64) : (storeCells ⟨W.heap.size, 0, none⟩ (wcell e)).run Try.prog (W.alloc (.cells writeZero 79)) = .ok () (W.alloc (.cells (wcell e).toArray 79)) := by
  have := run_storeCells_new (P := Try.prog) W 79 writeZero (wcell e).toArray (by rw [wr_size, List.size_toArray, wcell_len e hs]) (by rw [writeZero_size, List.size_toArray, wcell_len e hs]) wcell_all
  simpa using this
theorem range_blk {W : World} {g : Nat} {t : TypeId} {cs : List Value} (h : Blk W g t cs.toArray) : W.rangeAt g 0 cs := fun j v hv => by
  rw [Nat.zero_add, h.cell, ← hv]
  simp
set_option maxRecDepth 100000 in
theorem info_write4 : (Try.prog.info? 79).map (fun i => (i.zero, i.size, i.bytes)) = some (some (.agg writeZero), 65, 72) := by kernel_rfl
theorem from_range {W : World} {b : Nat} {cs : List Value} (n : Nat) (hn : cs.length = n) (h : W.rangeAt b 0 cs) : (loadCellsFrom ⟨b, 0, none⟩ 0 n #[]).run Try.prog W = .ok cs.toArray W := by
  subst hn
  have := run_loadCells_list (P := Try.prog) W ⟨b, 0, none⟩ cs (fun j v hv => by rw [Addr.add_mid]; exact h j v hv)
  exact this
theorem wp_slice_wr {o : Oper} {a : Act} {w : World} {K : Act → World → Prop} {Q : Exit → Act → World → Prop} (x : Operand) (ho : o.op = .buildSlice 52 1 #[(0, x)])
    (k : Nat) (s : List UInt8) (hx : a.eval x = .agg (wcell (k, s)).toArray) (hs : s.length = 64)
    (h : K (a.put o.dst (.slice (some ⟨w.heap.size, 0, none⟩) 1 1)) (w.alloc (.cells (wcell (k, s)).toArray 79))) : o.wp Try.prog a w K Q := by
  unfold Oper.wp execOp
  have := slice_write k s hs w
  simp only [ho, List.map_toArray, List.map_cons, List.map_nil, hx, Sem.run_bind, this, Result.andThen_ok]
  exact h
end Go.Proofs.Ytogjdfiimflbaaa
