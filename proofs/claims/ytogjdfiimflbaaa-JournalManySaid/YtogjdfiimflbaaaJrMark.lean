/-
  The walk of journal's marked, where the sector is a mark or zeros. Conditions: the sector's octets read so.
-/
import Derived.Test.YtogjdfiimflbaaaJrSec
import Derived.Test.YtogjdfiimflbaaaRegionPhase
import Derived.BigQuiet
namespace Go.Proofs.Ytogjdfiimflbaaa
open Go Go.RowKit

section
variable {P : Program}
theorem run_loadAt_ad (w : World) (ad : Addr) (ty : TypeId) (cs : List Value) (d : TypeDesc) (hc : ∀ j v, cs[j]? = some v → w.cell? (ad.add j) = some v)
    (hu : P.underlying ty = some d) (hd : d.isRow = true) (hi : (P.info? ty).map (·.size) = some cs.length) :
    (Instr.loadAt ty (.pointer (some ad))).run P w = .ok (.agg cs.toArray) w := by
  have hl : (loadCells ad cs.length).run P w = .ok cs.toArray w := run_loadCells_list (P := P) w ad cs hc
  have hv : (loadVar ty ad).run P w = .ok (.agg cs.toArray) w := by
    cases hq : P.info? ty with
    | none => simp [hq] at hi
    | some i =>
      have hs : i.size = cs.length := by simpa [hq] using hi
      have hagg : (isAgg ty).run P w = .ok true w := by
        unfold isAgg
        rw [Sem.run_bind, run_underlying hu w]
        cases d <;> simp_all
      simp [loadVar, Sem.run_bind, hagg, sizeOf, typeInfo, hq, hs, hl]
  simp only [Instr.loadAt, Instr.sureAddr, Sem.run_bind, Sem.run_pure, Result.andThen_ok, hv]
end
def markI (a b c : Int) : Array Value := #[.int .i64 a, .int .i64 b, .int .i64 c]
def markZ : Array Value := markI 0 0 0
theorem mark_info : (Try.prog.info? 61).map (·.size) = some 3 := by kernel_rfl
theorem mark_desc : ∃ fs, Try.prog.underlying 61 = some (.struct fs) := ⟨_, Try.underlying61⟩
theorem mark_zero : (Try.prog.info? 61).map (fun i => (i.zero, i.size)) = some (some (.agg markZ), 3) := by kernel_rfl
set_option maxRecDepth 100000 in
theorem zero_mark (W : World) : (zeroValue 61).run Try.prog W = .ok (.agg markZ) W := by
  obtain ⟨i, hi, he⟩ := Option.map_eq_some_iff.1 mark_zero
  injection he with h1 h2
  simp [zeroValue, typeInfo, hi, h1]
theorem built_mark (a b c : Int) : Try.prog.built 61 [(0, .int .i64 a), (1, .int .i64 b), (2, .int .i64 c)] = some (markI a b c) := by kernel_rfl
theorem build_mark (W : World) (a b c : Int) : (Instr.build 61 #[(0, .int .i64 a), (1, .int .i64 b), (2, .int .i64 c)]).run Try.prog W = .ok (.agg (markI a b c)) W := run_build W _ _ _ (built_mark a b c)
theorem cells_mark_new (W : World) (a b c : Int) : (storeCells ⟨W.heap.size, 0, none⟩ (markI a b c).toList).run Try.prog (W.alloc (.cells markZ 61)) = .ok () (W.alloc (.cells (markI a b c) 61)) :=
  run_storeCells_new (P := Try.prog) W 61 markZ (markI a b c) (by rw [mark_info]; rfl) rfl (by unfold markI; exact all_oneCell_toArray (cs := [.int .i64 a, .int .i64 b, .int .i64 c]) (fun x hx => by
    simp only [List.mem_cons, List.not_mem_nil, or_false] at hx
    rcases hx with rfl | rfl | rfl <;> rfl))
/-- a world before an allocation, behind it, behind the store -/
def PhW (i j : Nat) (w0 wB wC : World) (L : Nat → Prop) (w : World) : Prop := (¬ L i → w = w0) ∧ (L i → ¬ L j → w = wB) ∧ (L j → w = wC)
section
variable {i j k : Nat} {w0 wB wC w : World} {L : Nat → Prop}
theorem PhW.at0 (H : PhW i j w0 wB wC L w) (h : ¬ L i) : w = w0 := H.1 h
theorem PhW.at1 (H : PhW i j w0 wB wC L w) (h : L i) (h2 : ¬ L j) : w = wB := H.2.1 h h2
theorem PhW.stay (H : PhW i j w0 wB wC L w) (h : k ≠ i) (h2 : k ≠ j) : PhW i j w0 wB wC (fun m => m = k ∨ L m) w :=
  ⟨fun e => H.1 (fun e2 => e (.inr e2)), fun e e2 => H.2.1 (e.resolve_left (Ne.symm h)) (fun e3 => e2 (.inr e3)), fun e => H.2.2 (e.resolve_left (Ne.symm h2))⟩
theorem PhW.step1 (hij : j ≠ i) (h2 : ¬ L j) : PhW i j w0 wB wC (fun m => m = i ∨ L m) wB := ⟨fun e => absurd (.inl rfl) e, fun _ _ => rfl, fun e => absurd (e.resolve_left hij) h2⟩
theorem PhW.step2 (h : L i) : PhW i j w0 wB wC (fun m => m = j ∨ L m) wC := ⟨fun e => absurd (.inr h) e, fun _ e => absurd (.inl rfl) e, fun _ => rfl⟩
end

theorem markI_set (a b c : Int) (W : World) (g : Nat) (t : TypeId) (hb : Blk W g t markZ) : (storeCells ⟨g, 0, none⟩ (markI a b c).toList).run Try.prog W = .ok () (W.setRow g (markI a b c)) := by
  have := run_storeCells_at (P := Try.prog) g 0 t (markI a b c).toList 0 markZ W hb (Nat.le_refl 3) (fun x hx => by
    simp only [markI, List.mem_cons, List.not_mem_nil, or_false] at hx
    rcases hx with rfl | rfl | rfl <;> rfl)
  exact this
theorem load_mark_blk (W : World) (g : Nat) (t : TypeId) (a b c : Int) (hb : Blk W g t (markI a b c)) : (Instr.loadAt 61 (.pointer (some ⟨g, 0, none⟩))).run Try.prog W = .ok (.agg (markI a b c)) W := by
  obtain ⟨fs, he⟩ := mark_desc
  exact run_loadAt_ad W ⟨g, 0, none⟩ _ [.int .i64 a, .int .i64 b, .int .i64 c] _ (fun j v hv => by
    rw [add_flat, Nat.zero_add, hb.cell, show markI a b c = [.int .i64 a, .int .i64 b, .int .i64 c].toArray from rfl, List.getElem?_toArray]
    exact hv) he rfl (by rw [mark_info]; rfl)
theorem load_var_mark (W : World) (g : Nat) (t : TypeId) (a b c : Int) (hb : Blk W g t (markI a b c)) : (loadVar 61 ⟨g, 0, none⟩).run Try.prog W = .ok (.agg (markI a b c)) W := by
  have := load_mark_blk W g t a b c hb
  simpa [Instr.loadAt, Instr.sureAddr] using this
set_option maxRecDepth 100000 in
set_option maxHeartbeats 2000000 in
theorem marked_any (b : List UInt8) (hb : b.length = 64) (g c B : Nat) (rest n : Int) (W : World) (hB : B ≤ W.heap.size) (hA : Reads W B 1 (some ⟨g, 0, none⟩) 64 (byts b)) (hc : 64 ≤ c) (m0 m1 m2 m3 : Int) (h0 : wordI (b.take 8) = m0) (h1 : wordI ((b.drop 9).take 8) = m1) (h2 : wordI ((b.drop 17).take 4) = m2) (h3 : wordI (b.drop 56) = m3) (x : Bool)
    (hx : (x = false ∧ m0 = 0 ∧ m3 = 0) ∨ (x = true ∧ m0 = m3 ∧ m0 ≠ 0 ∧ bits .and .i64 m0 1 = rest ∧ b[8]? = some 84 ∧ 2 ≤ m2 ∧ m2 ≤ n)) :
    Calls Try.prog 41 #[.slice (some ⟨g, 0, none⟩) 64 c, .int .i64 rest, .int .i64 n] W fun e W' => e = .returned (.tuple #[.agg (markI m0 m1 m2), .bool x]) ∧ Below W.heap.size W W' := by
  have hz := fun W' => zero_mark W'
  have HZ6 : Hid (Blk (W.alloc (.cells markZ 61)) W.heap.size 61 markZ) := Blk.new _ _ _
  have HW1 : Hid (Below W.heap.size W (W.alloc (.cells markZ 61)) ∧ (W.alloc (.cells markZ 61)).heap.size = W.heap.size + 1) := ⟨(Below.refl _ _).alloc (Nat.le_refl _) _, by simp⟩
  obtain ⟨w1, hA1⟩ : ∃ w1, W.alloc (.cells markZ 61) = w1 := ⟨_, rfl⟩
  rw [hA1] at HW1 HZ6
  have HRX : Hid (∀ x, Below w1.heap.size w1 x → ∀ i k, i + k ≤ 64 → Reads x B 1 (some ⟨g, i, none⟩) k (byts ((b.drop i).take k))) := fun x hx i k hik => by
    have hr := hA.below ((HW1.out.1.trans (hx.mono HW1.out.1.size)).mono hB)
    refine ⟨by simp [byts]; omega, fun hk => ?_⟩
    obtain ⟨ad, e, hbl, hcell⟩ := hr.2 (by omega)
    injection e with e
    subst e
    refine ⟨_, rfl, hbl, fun j u hu => ?_⟩
    have hj : j < k := by
      have := (List.getElem?_eq_some_iff.1 hu).1
      simp [byts] at this
      omega
    have hu2 : (byts b)[i + j]? = some u := by
      rw [← hu]
      simp [byts, List.getElem?_take_of_lt hj, List.getElem?_drop]
    have := hcell (i + j) u hu2
    rw [add_flat, Nat.zero_add] at this
    rw [add_flat]
    exact this
  have HPW : Hid (∀ x L, PhW 10 11 w1.drew (w1.alloc (.cells markZ 61)).drew (w1.alloc (.cells (markI m0 m1 m2) 61)).drew L x → Below w1.heap.size w1 x) := fun x L hi => by
    by_cases l11 : L 11
    · rw [hi.2.2 l11]; exact ((Below.refl _ _).alloc (Nat.le_refl _) _).drew
    · by_cases l10 : L 10
      · rw [hi.2.1 l10 l11]; exact ((Below.refl _ _).alloc (Nat.le_refl _) _).drew
      · rw [hi.1 l10]; exact (Below.refl _ _).drew
  have HW0 : Hid (∀ x L, PhW 10 11 w1.drew (w1.alloc (.cells markZ 61)).drew (w1.alloc (.cells (markI m0 m1 m2) 61)).drew L x → Calls Try.prog 42 #[.slice (some ⟨g, 0, none⟩) 8 c] x fun e w' => e = .returned (.int .i64 m0) ∧ w' = x) := fun x L hi => by
    have hbe := HPW.out x L hi
    have := word_any (b.take 8) (some ⟨g, 0, none⟩) 8 c B x (by rw [List.length_take]; omega) (by rw [List.length_take]; omega) (by have := hbe.size; have := HW1.out.1.size; omega) (by simpa using HRX.out x hbe 0 8 (by omega))
    rw [h0] at this
    exact this
  have HW1' : Hid (∀ x L, PhW 10 11 w1.drew (w1.alloc (.cells markZ 61)).drew (w1.alloc (.cells (markI m0 m1 m2) 61)).drew L x → Calls Try.prog 42 #[.slice (some ⟨g, 9, none⟩) 8 (c - 9)] x fun e w' => e = .returned (.int .i64 m1) ∧ w' = x) := fun x L hi => by
    have hbe := HPW.out x L hi
    have := word_any ((b.drop 9).take 8) (some ⟨g, 9, none⟩) 8 (c - 9) B x (by rw [List.length_take, List.length_drop]; omega) (by rw [List.length_take]; omega) (by have := hbe.size; have := HW1.out.1.size; omega) (HRX.out x hbe 9 8 (by omega))
    rw [h1] at this
    exact this
  have HW2 : Hid (∀ x L, PhW 10 11 w1.drew (w1.alloc (.cells markZ 61)).drew (w1.alloc (.cells (markI m0 m1 m2) 61)).drew L x → Calls Try.prog 42 #[.slice (some ⟨g, 17, none⟩) 4 (c - 17)] x fun e w' => e = .returned (.int .i64 m2) ∧ w' = x) := fun x L hi => by
    have hbe := HPW.out x L hi
    have := word_any ((b.drop 17).take 4) (some ⟨g, 17, none⟩) 4 (c - 17) B x (by rw [List.length_take, List.length_drop]; omega) (by rw [List.length_take]; omega) (by have := hbe.size; have := HW1.out.1.size; omega) (HRX.out x hbe 17 4 (by omega))
    rw [h2] at this
    exact this
  have HPH : Hid (PhW 10 11 w1.drew (w1.alloc (.cells markZ 61)).drew (w1.alloc (.cells (markI m0 m1 m2) 61)).drew (fun _ => False) w1.drew) := ⟨fun _ => rfl, False.elim, False.elim⟩
  have hc8 : (8 : Int) ≤ (c : Int) := by omega
  have hc17 : (17 : Int) ≤ (c : Int) := by omega
  have hc21 : (21 : Int) ≤ (c : Int) := by omega
  have hc56 : (56 : Int) ≤ (c : Int) := by omega
  have hn9 : ¬ (c = 9) := by omega
  have hn17 : ¬ (c = 17) := by omega
  have hn56 : ¬ (c = 56) := by omega
  have HBL : Hid (∀ W', (Instr.build 61 #[(0, .int .i64 m0), (1, .int .i64 m1), (2, .int .i64 m2)]).run Try.prog W' = .ok (.agg (markI m0 m1 m2)) W') := fun W' => build_mark W' m0 m1 m2
  have HST : Hid ((storeCells ⟨w1.heap.size, 0, none⟩ (markI m0 m1 m2).toList).run Try.prog (w1.alloc (.cells markZ 61)).drew = .ok () (w1.alloc (.cells (markI m0 m1 m2) 61)).drew) := cells_mark_new w1.drew m0 m1 m2
  clear hA
  go_enter Try.func41, Try.ntmps41
  go_wp2_with fail
  clear hz
  refine wp_region_phase (fun _ _ => True) (PhW 10 11 w1.drew (w1.alloc (.cells markZ 61)).drew (w1.alloc (.cells (markI m0 m1 m2) 61)).drew) (listV [isV (.slice (some ⟨g, 0, none⟩) 64 c), isV (.slice (some ⟨g, 0, none⟩) 8 c), isV (.int .i64 m0), isV (.slice (some ⟨g, 0, none⟩) 64 c), isV (.slice (some ⟨g, 9, none⟩) 8 (c - 9)), isV (.int .i64 m1), isV (.slice (some ⟨g, 0, none⟩) 64 c), isV (.slice (some ⟨g, 17, none⟩) 4 (c - 17)), isV (.int .i64 m2), isV (.agg (markI m0 m1 m2)), isV (.pointer (some ⟨w1.heap.size, 0, none⟩)), isV (undef)]) (by kernel_rfl) (by kernel_rfl) ⟨fun _ => trivial, fun _ _ => trivial⟩ (listV_stableP ?_) HPH.out ?_ ?_
  · exact ⟨isV_stableP _ _, isV_stableP _ _, isV_stableP _ _, isV_stableP _ _, isV_stableP _ _, isV_stableP _ _, isV_stableP _ _, isV_stableP _ _, isV_stableP _ _, isV_stableP _ _, isV_stableP _ _, isV_stableP _ _, trivial⟩
  refine ⟨fun vs wk L hbk hi hL hcl hd => ?_, fun vs wk L hbk hi hL hcl hd => ?_, fun vs wk L hbk hi hL hcl hd => ?_, fun vs wk L hbk hi hL hcl hd => ?_, fun vs wk L hbk hi hL hcl hd => ?_, fun vs wk L hbk hi hL hcl hd => ?_, fun vs wk L hbk hi hL hcl hd => ?_, fun vs wk L hbk hi hL hcl hd => ?_, fun vs wk L hbk hi hL hcl hd => ?_, fun vs wk L hbk hi hL hcl hd => ?_, fun vs wk L hbk hi hL hcl hd => ?_, fun vs wk L hbk hi hL hcl hd => ?_, trivial⟩
  -- 0: Op.move t0
  · clear hd
    go_wp2
    exact ⟨rfl, rfl, rfl, trivial, hi.stay (by decide) (by decide)⟩
  -- 1: Op.slice 22 t10 none (some (const (8:i64))) none
  · simp only [Act.put, List.setIfInBounds_toArray, List.set_cons_zero, List.set_cons_succ]
    have e0 : vs 0 = .slice (some ⟨g, 0, none⟩) 64 c := (hd 0 (by kernel_rfl)).2
    clear hd
    go_wp2
    first | exact ⟨rfl, rfl, rfl, trivial, hi.stay (by decide) (by decide)⟩ | exact ⟨rfl, rfl, e0, trivial, hi.stay (by decide) (by decide)⟩
  -- 2: Op.call { value (Operand.func 42), args := #[t11], argTypes := #[22] }
  · simp only [Act.put, List.setIfInBounds_toArray, List.set_cons_zero, List.set_cons_succ, Nat.reduceAdd]
    have e1 : vs 1 = .slice (some ⟨g, 0, none⟩) 8 c := (hd 1 (by kernel_rfl)).2
    clear hd
    have hco := HW0.out wk L hi
    go_wp2_with fail
    refine hco.mono ?_
    rintro e w' ⟨rfl, rfl⟩
    clear hco
    go_wp2
    exact ⟨rfl, rfl, rfl, trivial, hi.stay (by decide) (by decide)⟩
  -- 3: Op.move t0
  · simp only [Act.put, List.setIfInBounds_toArray, List.set_cons_zero, List.set_cons_succ, Nat.reduceAdd]
    clear hd
    go_wp2
    exact ⟨rfl, rfl, rfl, trivial, hi.stay (by decide) (by decide)⟩
  -- 4: Op.slice 22 t13 (some (const (9:i64))) (some (const (17:i64))) none
  · simp only [Act.put, List.setIfInBounds_toArray, List.set_cons_zero, List.set_cons_succ, Nat.reduceAdd]
    have e3 : vs 3 = .slice (some ⟨g, 0, none⟩) 64 c := (hd 3 (by kernel_rfl)).2
    clear hd
    go_wp2
    first | exact ⟨rfl, rfl, rfl, trivial, hi.stay (by decide) (by decide)⟩ | exact ⟨rfl, rfl, e3, trivial, hi.stay (by decide) (by decide)⟩
  -- 5: Op.call { value (Operand.func 42), args := #[t14], argTypes := #[22] }
  · simp only [Act.put, List.setIfInBounds_toArray, List.set_cons_zero, List.set_cons_succ, Nat.reduceAdd]
    have e4 : vs 4 = .slice (some ⟨g, 9, none⟩) 8 (c - 9) := (hd 4 (by kernel_rfl)).2
    clear hd
    have hco := HW1'.out wk L hi
    go_wp2_with fail
    refine hco.mono ?_
    rintro e w' ⟨rfl, rfl⟩
    clear hco
    go_wp2
    exact ⟨rfl, rfl, rfl, trivial, hi.stay (by decide) (by decide)⟩
  -- 6: Op.move t0
  · simp only [Act.put, List.setIfInBounds_toArray, List.set_cons_zero, List.set_cons_succ, Nat.reduceAdd]
    clear hd
    go_wp2
    exact ⟨rfl, rfl, rfl, trivial, hi.stay (by decide) (by decide)⟩
  -- 7: Op.slice 22 t16 (some (const (17:i64))) (some (const (21:i64))) none
  · simp only [Act.put, List.setIfInBounds_toArray, List.set_cons_zero, List.set_cons_succ, Nat.reduceAdd]
    have e6 : vs 6 = .slice (some ⟨g, 0, none⟩) 64 c := (hd 6 (by kernel_rfl)).2
    clear hd
    go_wp2
    first | exact ⟨rfl, rfl, rfl, trivial, hi.stay (by decide) (by decide)⟩ | exact ⟨rfl, rfl, e6, trivial, hi.stay (by decide) (by decide)⟩
  -- 8: Op.call { value (Operand.func 42), args := #[t17], argTypes := #[22] }
  · simp only [Act.put, List.setIfInBounds_toArray, List.set_cons_zero, List.set_cons_succ, Nat.reduceAdd]
    have e7 : vs 7 = .slice (some ⟨g, 17, none⟩) 4 (c - 17) := (hd 7 (by kernel_rfl)).2
    clear hd
    have hco := HW2.out wk L hi
    go_wp2_with fail
    refine hco.mono ?_
    rintro e w' ⟨rfl, rfl⟩
    clear hco
    go_wp2
    exact ⟨rfl, rfl, rfl, trivial, hi.stay (by decide) (by decide)⟩
  -- 9: Op.build 61 #[(0, t12), (1, t15), (2, t18)]
  · simp only [Act.put, List.setIfInBounds_toArray, List.set_cons_zero, List.set_cons_succ, Nat.reduceAdd]
    have e2 : vs 2 = .int .i64 m0 := (hd 2 (by kernel_rfl)).2
    have e5 : vs 5 = .int .i64 m1 := (hd 5 (by kernel_rfl)).2
    have e8 : vs 8 = .int .i64 m2 := (hd 8 (by kernel_rfl)).2
    clear hd
    have hbu := HBL.out
    go_wp2
    first | exact ⟨rfl, rfl, rfl, trivial, hi.stay (by decide) (by decide)⟩ | exact ⟨rfl, rfl, e8, trivial, hi.stay (by decide) (by decide)⟩ | exact ⟨rfl, rfl, e5, trivial, hi.stay (by decide) (by decide)⟩ | exact ⟨rfl, rfl, e2, trivial, hi.stay (by decide) (by decide)⟩
  -- 10: Op.alloc 61
  · simp only [Act.put, List.setIfInBounds_toArray, List.set_cons_zero, List.set_cons_succ, Nat.reduceAdd]
    clear hd
    have he := hi.at0 hL
    have hi2 : PhW 10 11 w1.drew (w1.alloc (.cells markZ 61)).drew _ _ _ := PhW.step1 (w0 := w1.drew) (wC := w1.drew.alloc (.cells (markI m0 m1 m2) 61)) (by decide) (fun h => hL (hcl 11 _ rfl h 10 (by kernel_rfl)))
    subst he
    have hz := fun W' => zero_mark W'
    clear hi
    go_wp2
    exact ⟨rfl, rfl, rfl, trivial, hi2⟩
  -- 11: Op.store 61 t8 t19
  · simp only [Act.put, List.setIfInBounds_toArray, List.set_cons_zero, List.set_cons_succ, Nat.reduceAdd]
    have e10 : vs 10 = .pointer (some ⟨w1.heap.size, 0, none⟩) := (hd 10 (by kernel_rfl)).2
    have e9 : vs 9 = .agg (markI m0 m1 m2) := (hd 9 (by kernel_rfl)).2
    have hd10L := (hd 10 (by kernel_rfl)).1
    clear hd
    have he := hi.at1 hd10L hL
    have hi2 := PhW.step2 (w0 := w1.drew) (wB := w1.drew.alloc (.cells markZ 61)) (wC := w1.drew.alloc (.cells (markI m0 m1 m2) 61)) (j := 11) hd10L
    subst he
    have hst := HST.out
    clear hi
    go_wp2
    exact ⟨rfl, rfl, rfl, trivial, hi2⟩
  intro vs wk L hbk hL hi hd
  simp only [putAll, Act.put, List.setIfInBounds_toArray, List.set_cons_zero, List.set_cons_succ, Nat.reduceAdd]
  have e10 : vs 10 = .pointer (some ⟨w1.heap.size, 0, none⟩) := hd 10 (by decide)
  clear hd
  simp only [e10]
  clear e10
  have hwk := hi.2.2 (hL 11 (by decide))
  subst hwk
  clear hi hL hbk
  try clear HPH
  clear HPW HW0 HW1' HW2
  generalize vs 0 = u0
  generalize vs 1 = u1
  generalize vs 2 = u2
  generalize vs 3 = u3
  generalize vs 4 = u4
  generalize vs 5 = u5
  generalize vs 6 = u6
  generalize vs 7 = u7
  generalize vs 8 = u8
  generalize vs 9 = u9
  have HB2 : Hid (Blk (w1.alloc (.cells (markI m0 m1 m2) 61)).drew w1.heap.size 61 (markI m0 m1 m2)) := (Blk.new _ _ _).drew
  have HL2 : Hid (Below w1.heap.size w1 (w1.alloc (.cells (markI m0 m1 m2) 61)).drew) := ((Below.refl _ _).alloc (Nat.le_refl _) _).drew
  obtain ⟨w2, hw2⟩ : ∃ w2, (w1.alloc (.cells (markI m0 m1 m2) 61)).drew = w2 := ⟨_, rfl⟩
  rw [hw2] at HB2 HL2 ⊢
  clear hw2 HST HBL
  have HWD : Hid (∀ k, Calls Try.prog 42 #[.slice (some ⟨g, 56, none⟩) 8 (c - 56)] (w2.drewN k) fun e w' => e = .returned (.int .i64 m3) ∧ w' = w2.drewN k) := fun k => by
    have hbe : Below w1.heap.size w1 (w2.drewN k) := below_drewN HL2.out k
    have := word_any (b.drop 56) (some ⟨g, 56, none⟩) 8 (c - 56) B (w2.drewN k) (by rw [List.length_drop]; omega) (by rw [List.length_drop]; omega) (by have := hbe.size; have := HW1.out.1.size; omega) (by
      have := HRX.out _ hbe 56 8 (by omega)
      rw [List.take_of_length_le (by rw [List.length_drop]; omega)] at this
      exact this)
    rw [h3] at this
    exact this
  have H8 : Hid (∀ u, b[8]? = some u → ∀ k, (w2.drewN k).cell? ⟨g, 8, none⟩ = some (.int .u8 (u.toNat : Int))) := fun u hu k => by
    have hbe : Below w1.heap.size w1 (w2.drewN k) := below_drewN HL2.out k
    obtain ⟨_, e, _, hc⟩ := (HRX.out _ hbe 0 64 (by omega)).2 (by omega)
    injection e with e
    subst e
    have := hc 8 (.int .u8 (u.toNat : Int)) (by rw [List.drop_zero, List.take_of_length_le (by omega)]; simp [byts, hu])
    rw [add_flat] at this
    exact this
  have b0 : w2.cell? ⟨w1.heap.size, 0, none⟩ = some (.int .i64 m0) := HB2.out.cell 0
  have b1 : w2.cell? ⟨w1.heap.size, 1, none⟩ = some (.int .i64 m1) := HB2.out.cell 1
  have b2 : w2.cell? ⟨w1.heap.size, 2, none⟩ = some (.int .i64 m2) := HB2.out.cell 2
  have HZ2 := hide (HZ6.out.below HL2.out (by have := HW1.out.2; omega))
  have HE2 : Hid (Below W.heap.size W w2) := HW1.out.1.trans (HL2.out.mono HW1.out.1.size)
  clear HZ6 hA1 h0 h1 h2 h3 hc8 hc17 hc21 hn9 hn17 hB hb
  rcases hx with ⟨rfl, rfl, rfl⟩ | ⟨rfl, rfl, hm0, rfl, hb8, hm2, hmn⟩
  · clear H8
    go_wp2_with fail
    refine wp_region_quiet_lit (by kernel_rfl) (by kernel_rfl) ?_
    repeat (go_big_quiet_step ((go_at_call 42; exact Calls.quiet_of_same (HWD.out _))))
    refine wpQuiet_nil ?_
    intro _ hw'
    obtain ⟨nq, hw''⟩ := hw'
    subst hw''
    have HB3 : Hid (Blk (w2.drewN nq) w1.heap.size 61 (markI 0 m1 m2)) := HB2.out.drewN nq
    have HE3 : Hid (Below W.heap.size W (w2.drewN nq)) := below_drewN HE2.out nq
    have HZ3 : Hid (Blk (w2.drewN nq) W.heap.size 61 markZ) := HZ2.out.drewN nq
    clear b0 b1 b2 HB2 HE2 HZ2 HWD HL2
    generalize w2.drewN nq = w3 at *
    have HLD := hide (load_mark_blk w3 _ _ _ _ _ HB3.out)
    have b0 : w3.cell? ⟨w1.heap.size, 0, none⟩ = some (.int .i64 0) := HB3.out.cell 0
    have b1 : w3.cell? ⟨w1.heap.size, 1, none⟩ = some (.int .i64 m1) := HB3.out.cell 1
    have b2 : w3.cell? ⟨w1.heap.size, 2, none⟩ = some (.int .i64 m2) := HB3.out.cell 2
    have HF : Hid (Blk (((w3.setCell ⟨W.heap.size, 0, none⟩ (.int .i64 0)).setCell ⟨W.heap.size, 1, none⟩ (.int .i64 m1)).setCell ⟨W.heap.size, 2, none⟩ (.int .i64 m2)) W.heap.size 61 (markI 0 m1 m2)) := ((HZ3.out.set_ 0 _).set_ 1 _).set_ 2 _
    have HEF : Hid (Below W.heap.size W (((w3.setCell ⟨W.heap.size, 0, none⟩ (.int .i64 0)).setCell ⟨W.heap.size, 1, none⟩ (.int .i64 m1)).setCell ⟨W.heap.size, 2, none⟩ (.int .i64 m2))) := ((HE3.out.setCell (p := ⟨W.heap.size, 0, none⟩) (Nat.le_refl _) _).setCell (p := ⟨W.heap.size, 1, none⟩) (Nat.le_refl _) _).setCell (p := ⟨W.heap.size, 2, none⟩) (Nat.le_refl _) _
    have z0 := HZ3.out.frozen 0
    have z1 := HZ3.out.frozen 1
    have z2 := HZ3.out.frozen 2
    have y0 : w3.cell? ⟨W.heap.size, 0, none⟩ = some (.int .i64 0) := HZ3.out.cell 0
    have y1 : w3.cell? ⟨W.heap.size, 1, none⟩ = some (.int .i64 0) := HZ3.out.cell 1
    have y2 : w3.cell? ⟨W.heap.size, 2, none⟩ = some (.int .i64 0) := HZ3.out.cell 2
    go_wp2_with (with_reducible refine wpList_load_run rfl 61 (.tmp 8) rfl HLD.out rfl ?_; unfold markI)
    refine bodyPost_ret (results_cell_tmp Try.results41 (load_var_mark _ _ _ _ _ _ HF.out) rfl) rfl ⟨rfl, HEF.out⟩
  · have t1 : (m0 == 0) = false := by simpa using hm0
    have t1' : (m0 != 0) = true := by simpa using hm0
    have t2 : decide (m2 ≥ 2) = true := decide_eq_true hm2
    have t3 : decide (m2 ≤ n) = true := decide_eq_true hmn
    have h8 : w2.cell? ⟨g, 8, none⟩ = some (.int .u8 84) := H8.out _ hb8 0
    clear H8 hm0 hb8 hm2 hmn
    go_wp2_with fail
    refine wp_region_quiet_lit (by kernel_rfl) (by kernel_rfl) ?_
    repeat (go_big_quiet_step ((go_at_call 42; exact Calls.quiet_of_same (HWD.out _))))
    refine wpQuiet_nil ?_
    intro _ hw'
    obtain ⟨nq, hw''⟩ := hw'
    subst hw''
    have HB3 : Hid (Blk (w2.drewN nq) w1.heap.size 61 (markI m0 m1 m2)) := HB2.out.drewN nq
    have HE3 : Hid (Below W.heap.size W (w2.drewN nq)) := below_drewN HE2.out nq
    have HZ3 : Hid (Blk (w2.drewN nq) W.heap.size 61 markZ) := HZ2.out.drewN nq
    clear b0 b1 b2 HB2 HE2 HZ2 HWD HL2
    generalize w2.drewN nq = w3 at *
    have HLD := hide (load_mark_blk w3 _ _ _ _ _ HB3.out)
    have b0 : w3.cell? ⟨w1.heap.size, 0, none⟩ = some (.int .i64 m0) := HB3.out.cell 0
    have b1 : w3.cell? ⟨w1.heap.size, 1, none⟩ = some (.int .i64 m1) := HB3.out.cell 1
    have b2 : w3.cell? ⟨w1.heap.size, 2, none⟩ = some (.int .i64 m2) := HB3.out.cell 2
    have HF : Hid (Blk (((w3.setCell ⟨W.heap.size, 0, none⟩ (.int .i64 m0)).setCell ⟨W.heap.size, 1, none⟩ (.int .i64 m1)).setCell ⟨W.heap.size, 2, none⟩ (.int .i64 m2)) W.heap.size 61 (markI m0 m1 m2)) := ((HZ3.out.set_ 0 _).set_ 1 _).set_ 2 _
    have HEF : Hid (Below W.heap.size W (((w3.setCell ⟨W.heap.size, 0, none⟩ (.int .i64 m0)).setCell ⟨W.heap.size, 1, none⟩ (.int .i64 m1)).setCell ⟨W.heap.size, 2, none⟩ (.int .i64 m2))) := ((HE3.out.setCell (p := ⟨W.heap.size, 0, none⟩) (Nat.le_refl _) _).setCell (p := ⟨W.heap.size, 1, none⟩) (Nat.le_refl _) _).setCell (p := ⟨W.heap.size, 2, none⟩) (Nat.le_refl _) _
    have z0 := HZ3.out.frozen 0
    have z1 := HZ3.out.frozen 1
    have z2 := HZ3.out.frozen 2
    have y0 : w3.cell? ⟨W.heap.size, 0, none⟩ = some (.int .i64 0) := HZ3.out.cell 0
    have y1 : w3.cell? ⟨W.heap.size, 1, none⟩ = some (.int .i64 0) := HZ3.out.cell 1
    have y2 : w3.cell? ⟨W.heap.size, 2, none⟩ = some (.int .i64 0) := HZ3.out.cell 2
    go_wp2_with (with_reducible refine wpList_load_run rfl 61 (.tmp 8) rfl HLD.out rfl ?_; unfold markI)
    refine bodyPost_ret (results_cell_tmp Try.results41 (load_var_mark _ _ _ _ _ _ HF.out) rfl) rfl ⟨rfl, HEF.out⟩
end Go.Proofs.Ytogjdfiimflbaaa
