/-
  lru's push: a response is put behind a segment's others. Conditions: the cache's block and the segment's row read as their data say.
-/
import Derived.Test.YtjijdpdbkpknpaaLruCache
namespace Go.Proofs.Ytjijdpdbkpknpaa
open Go Go.RowKit

/-- what a segment has taken -/
def Pushed (W : World) (g o : Nat) (cs : Array Value) (v : Value) (c : Nat) (L : List (Hd × Loc)) (h : Hd) (l : Loc) (e : Ending) (W' : World) : Prop :=
  e = .returned (.tuple #[]) ∧ ∃ v', Blk W' g 91 ((cs.setIfInBounds o v').setIfInBounds (o + 1) (.int .i64 ((c + costN h : Nat) : Int))) ∧
    W'.ownsRow 0 40 17 v' (L.length + 1) (hrow (L ++ [(h, l)])) ∧ (v'.ownBlock = v.ownBlock ∨ ∃ q, v'.ownBlock = some q ∧ W.heap.size ≤ q) ∧ Fr (fun q => q = g ∨ v.ownBlock = some q) W W'

set_option maxRecDepth 100000 in
set_option maxHeartbeats 2000000 in
theorem push_any (W : World) (g o : Nat) (cs : Array Value) (v : Value) (c : Nat) (L : List (Hd × Loc)) (h : Hd) (l : Loc) (D : Nat → Prop) (hl : L.length ≤ 1000000)
    (hb : Blk W g 91 cs) (h1 : cs[o]? = some v) (h2 : cs[o + 1]? = some (.int .i64 (c : Int))) (hown : W.ownsRow 0 40 17 v L.length (hrow L)) (hh : HeldD W D h l) (hD : ∀ q, D q → q < W.heap.size ∧ q ≠ g ∧ v.ownBlock ≠ some q)
    (hok : h.ok) (hc2 : c ≤ 1099511627776) :
    Calls Try.prog 41 #[.pointer (some ⟨g, o, none⟩), .agg (hcs h l).toArray] W (Pushed W g o cs v c L h l) := by
  have hne : ∀ q, v.ownBlock = some q → q ≠ g := own_type_ne hown hb (by decide)
  have hgs : g < W.heap.size := hb.lt
  have hol := hide hown.lt
  unfold Pushed
  have HB := hide hb
  have HH := hide hh
  have HO := hide hown
  have HDD := hide hD
  have HOK := hide hok
  have HNE := hide hne
  have HC2 := hide h2
  have HOS := hide h1
  obtain ⟨i0, z0, hi0, hz0, hzc, hz1, hz2⟩ := held_zero4
  have hz17 : z0.cells.size = 17 := by rw [hzc]; rfl
  have HHB1 : Hid (Blk (W.alloc (.cells (hcs h l).toArray 40)) W.heap.size 40 (hcs h l).toArray) := Blk.new _ _ _
  have HW1 : Hid (Below W.heap.size W (W.alloc (.cells (hcs h l).toArray 40)) ∧ (W.alloc (.cells (hcs h l).toArray 40)).heap.size = W.heap.size + 1) := ⟨(Below.refl _ _).alloc (Nat.le_refl _) _, by simp⟩
  obtain ⟨W1, hA1⟩ : ∃ W1, W.alloc (.cells (hcs h l).toArray 40) = W1 := ⟨_, rfl⟩
  rw [hA1] at HW1 HHB1
  have HSX : Hid (∀ x, Below W1.heap.size W1 x → (x.cell? ⟨g, o, none⟩ = some v ∧ (Instr.loadAt 40 (.pointer (some ⟨W.heap.size, 0, none⟩))).run Try.prog x = .ok (.agg (hcs h l).toArray) x)) := fun x hx => by
    refine ⟨?_, load_held_blk x _ _ h l (HHB1.out.below hx HHB1.out.lt)⟩
    have hb1 := (HB.out.below HW1.out.1 hgs).below hx (by have := HW1.out.1.size; omega)
    exact (hb1.cell o).trans HOS.out
  clear hb hh hown hD hok h1 h2 hne
  go_enter Try.func41, Try.ntmps41
  go_wp2_with fail
  clear hA1
  refine region_U (fun x => x.cell? ⟨g, o, none⟩ = some v ∧ (Instr.loadAt 40 (.pointer (some ⟨W.heap.size, 0, none⟩))).run Try.prog x = .ok (.agg (hcs h l).toArray) x) 10 (by kernel_rfl) ?_
  intro Y hY
  have HBY : Hid (Below W1.heap.size W1 Y) := by rw [hY]; exact (Below.refl _ _).drew
  have HSY := hide (HSX.out Y HBY.out)
  clear hY
  refine takeU 0 (.pointer (some ⟨g, o, none⟩)) rfl (by kernel_rfl) (fun _ _ _ h => h) (by rfl) (fun x hS => by
    obtain ⟨s1, s2⟩ := hS
    go_simp) HSY.out ?_
  simp only [Act.put, List.getElem_toArray, List.getElem_cons_succ, List.getElem_cons_zero, List.setIfInBounds_toArray, List.set_cons_zero, List.set_cons_succ]
  refine takeU 1 (.pointer (some ⟨g, o, none⟩)) rfl (by kernel_rfl) (fun _ _ _ h => h) (by rfl) (fun x hS => by
    obtain ⟨s1, s2⟩ := hS
    go_simp) HSY.out ?_
  simp only [Act.put, List.getElem_toArray, List.getElem_cons_succ, List.getElem_cons_zero, List.setIfInBounds_toArray, List.set_cons_zero, List.set_cons_succ]
  refine takeU 2 (.pointer (some ⟨g, o, none⟩)) rfl (by kernel_rfl) (fun _ _ _ h => h) (by rfl) (fun x hS => by
    obtain ⟨s1, s2⟩ := hS
    go_simp) HSY.out ?_
  simp only [Act.put, List.getElem_toArray, List.getElem_cons_succ, List.getElem_cons_zero, List.setIfInBounds_toArray, List.set_cons_zero, List.set_cons_succ]
  refine takeU 3 (.pointer (some ⟨g, o, none⟩)) rfl (by kernel_rfl) (fun _ _ _ h => h) (by rfl) (fun x hS => by
    obtain ⟨s1, s2⟩ := hS
    go_simp) HSY.out ?_
  simp only [Act.put, List.getElem_toArray, List.getElem_cons_succ, List.getElem_cons_zero, List.setIfInBounds_toArray, List.set_cons_zero, List.set_cons_succ]
  refine takeU 4 (v) rfl (by kernel_rfl) (fun _ _ _ h => h) (by rfl) (fun x hS => by
    obtain ⟨s1, s2⟩ := hS
    go_simp) HSY.out ?_
  simp only [Act.put, List.getElem_toArray, List.getElem_cons_succ, List.getElem_cons_zero, List.setIfInBounds_toArray, List.set_cons_zero, List.set_cons_succ]
  refine takeU 5 (.agg (hcs h l).toArray) rfl (by kernel_rfl) (fun _ _ _ h => h) (by rfl) (fun x hS => exec_load 40 (.tmp 3) rfl hS.2 rfl) HSY.out ?_
  simp only [Act.put, List.getElem_toArray, List.getElem_cons_succ, List.getElem_cons_zero, List.setIfInBounds_toArray, List.set_cons_zero, List.set_cons_succ]
  refine oneU 6 rfl (by kernel_rfl) (by rfl) (runU (exec_slice 46 (.tmp 9) rfl (slice_held h l Y) rfl) ?_)
  have HBS : Hid (Below W1.heap.size W1 (Y.alloc (.cells (hcs h l).toArray 40))) := HBY.out.alloc HBY.out.size _
  have HSB : Hid (Blk (Y.alloc (.cells (hcs h l).toArray 40)) Y.heap.size 40 (hcs h l).toArray) := Blk.new _ _ _
  generalize Y.alloc (.cells (hcs h l).toArray 40) = X at *
  have HFX : Hid (Below W.heap.size W X) := HW1.out.1.trans (HBS.out.mono HW1.out.1.size)
  have HOX : Hid (X.ownsRow 0 40 17 v L.length (hrow L)) := own_keep HO.out HFX.out
  refine ⟨fun _ => HSX.out X HBS.out, ?_⟩
  simp only [Act.put, List.getElem_toArray, List.getElem_cons_succ, List.getElem_cons_zero, List.setIfInBounds_toArray, List.set_cons_zero, List.set_cons_succ]
  have HRD : Hid (Reads X X.heap.size 17 (some ⟨Y.heap.size, 0, none⟩) 1 (hcs h l)) := ⟨rfl, fun _ => ⟨_, rfl, HSB.out.lt, blk_held HSB.out⟩⟩
  refine oneU 7 rfl (by kernel_rfl) (by rfl) (wp_append_any _ (.tmp 8) (.tmp 10) 46 (by rfl) 0 40 i0 z0 17 248 Try.underlying46 hi0 hz0 hz1 hz2 hz17 (by omega) v L.length (hrow L) (by rfl) HOX.out X.heap.size (some ⟨Y.heap.size, 0, none⟩) 1 1 (hcs h l) (by rfl) HRD.out hcs_one (by simp only [maxLen]; omega) (by omega) (Nat.zero_le _) ?_)
  intro v3 W3 hown3 hg3 hat3
  obtain ⟨g3, c3, rfl, _, hg3lt⟩ := hown3.form (by omega)
  have HAT := hide hat3
  have HG3 := hide hg3
  have HO3 : Hid (W3.ownsRow 0 40 17 (.slice (some ⟨g3, 0, none⟩) (L.length + 1) c3) (L.length + 1) (hrow (L ++ [(h, l)]))) := by
    rw [hrow_append, hrow_cons, hrow_nil, List.append_nil]
    exact hown3
  clear hown3 hg3 hat3
  have hxs := HFX.out.size
  have hg3g : g3 ≠ g := by
    rcases HAT.out with e | e
    · exact HNE.out g3 e.symm
    · injection e with e
      simp at e
      omega
  have HB3 : Hid (Blk W3 g 91 cs) := (HB.out.below HFX.out hgs).grown HG3.out (fun e => HNE.out g e.symm rfl)
  have HHB3 : Hid (Blk W3 W.heap.size 40 (hcs h l).toArray) := (HHB1.out.below HBS.out HHB1.out.lt).grown HG3.out (fun e => by have := (hol.out _ e.symm).2; omega)
  have HS3 : Hid (W3.cell? ⟨g, o, none⟩ = some v ∧ (Instr.loadAt 40 (.pointer (some ⟨W.heap.size, 0, none⟩))).run Try.prog W3 = .ok (.agg (hcs h l).toArray) W3) := ⟨(HB3.out.cell o).trans HOS.out, load_held_blk W3 _ _ h l HHB3.out⟩
  have q3 : W3.cell? ⟨g, o, none⟩ = some v := HS3.out.1
  have f3 := HB3.out.frozen o
  refine ⟨fun _ => HS3.out, ?_⟩
  simp only [Act.put, List.getElem_toArray, List.getElem_cons_succ, List.getElem_cons_zero, List.setIfInBounds_toArray, List.set_cons_zero, List.set_cons_succ]
  refine oneU 8 rfl (by kernel_rfl) (by rfl) (runU (v := .pointer (some ⟨g, o, none⟩)) (x := W3) (by go_simp) ⟨fun _ => HS3.out, ?_⟩)
  simp only [Act.put, List.getElem_toArray, List.getElem_cons_succ, List.getElem_cons_zero, List.setIfInBounds_toArray, List.set_cons_zero, List.set_cons_succ]
  refine oneU 9 rfl (by kernel_rfl) (by rfl) (runU (v := .pointer (some ⟨g, o, none⟩)) (x := W3) (by go_simp) ⟨fun _ => HS3.out, ?_⟩)
  simp only [Act.put, List.getElem_toArray, List.getElem_cons_succ, List.getElem_cons_zero, List.setIfInBounds_toArray, List.set_cons_zero, List.set_cons_succ]
  refine oneU 10 rfl (by kernel_rfl) (by rfl) ?_
  go_wp2_with fail
  refine doneU (by kernel_rfl) ?_ _
  have HB4 : Hid (Blk (W3.setCell ⟨g, o, none⟩ (.slice (some ⟨g3, 0, none⟩) (L.length + 1) c3)) g 91 (cs.setIfInBounds o (.slice (some ⟨g3, 0, none⟩) (L.length + 1) c3))) := HB3.out.set_ o _
  have HO4 : Hid ((W3.setCell ⟨g, o, none⟩ (.slice (some ⟨g3, 0, none⟩) (L.length + 1) c3)).ownsRow 0 40 17 (.slice (some ⟨g3, 0, none⟩) (L.length + 1) c3) (L.length + 1) (hrow (L ++ [(h, l)]))) := (Fr.of_set _ _ _).own HO3.out (fun q hq => by cases hq; exact hg3g)
  have HF34 : Hid (Fr (fun q => q = g ∨ v.ownBlock = some q) X (W3.setCell ⟨g, o, none⟩ (.slice (some ⟨g3, 0, none⟩) (L.length + 1) c3))) := (Fr.of_grown HG3.out |>.weak (fun q _ e => .inr e)).trans (Fr.of_set _ _ _) (fun q _ e => .inl e)
  have HHB4 : Hid (Blk (W3.setCell ⟨g, o, none⟩ (.slice (some ⟨g3, 0, none⟩) (L.length + 1) c3)) W.heap.size 40 (hcs h l).toArray) := HHB3.out.far (p := ⟨g, o, none⟩) (by show W.heap.size ≠ g; omega) _
  generalize W3.setCell ⟨g, o, none⟩ (.slice (some ⟨g3, 0, none⟩) (L.length + 1) c3) = W4 at *
  clear q3 f3
  have HF4 : Hid (Fr (fun q => q = g ∨ v.ownBlock = some q) W W4) := (Fr.of_below HFX.out _).trans HF34.out (fun _ _ e => e)
  have HCC : Hid (∀ x, Below W4.heap.size W4 x → x.cell? ⟨g, o + 1, none⟩ = some (.int .i64 (c : Int))) := fun x hx => by
    refine (hx.cell (p := ⟨g, o + 1, none⟩) HB4.out.lt).trans ((HB4.out.cell _).trans ?_)
    rw [Array.getElem?_setIfInBounds_ne (by omega)]
    exact HC2.out
  have HLD : Hid (∀ x, Below W4.heap.size W4 x → (Instr.loadAt 40 (.pointer (some ⟨W.heap.size, 0, none⟩))).run Try.prog x = .ok (.agg (hcs h l).toArray) x) := fun x hx => load_held_blk x _ _ h l (HHB4.out.below hx HHB4.out.lt)
  have HCO : Hid (∀ x, Below W4.heap.size W4 x → Calls Try.prog 19 #[.agg (hcs h l).toArray] x fun e w' => e = .returned (.int .i64 (costN h : Nat)) ∧ Below x.heap.size x w') := fun x hx => by
    have hs := HF4.out.same (D := D) (fun q hq => ⟨(HDD.out q hq).1, fun e => by
      rcases e with e | e
      · exact (HDD.out q hq).2.1 e
      · exact (HDD.out q hq).2.2 e⟩)
    have hr : Reads W4 W.heap.size 2 l.af h.fields.length (flds h.fields) := (HH.out.keep hs).fields.reads (fun q hq => (HDD.out q hq).1)
    have h4 := HF4.out.size
    have := hx.size
    have := HOK.out.2.2.2.2
    exact cost_any h l W.heap.size x (hr.below (hx.mono h4)) (by omega) HOK.out.2.1 (by omega)
  go_wp2_with fail
  refine region_U (fun x => Below W4.heap.size W4 x) 9 (by kernel_rfl) ?_
  intro Y hY
  have HSY : Hid (Below W4.heap.size W4 Y) := by rw [hY]; exact (Below.refl _ _).drew
  clear hY
  refine takeU 0 (.pointer (some ⟨g, o, none⟩)) rfl (by kernel_rfl) (fun _ _ _ h => h) (by rfl) (fun x hS => by
    obtain s1 := hS
    go_simp) HSY.out ?_
  simp only [Act.put, List.getElem_toArray, List.getElem_cons_succ, List.getElem_cons_zero, List.setIfInBounds_toArray, List.set_cons_zero, List.set_cons_succ]
  refine takeU 1 (.pointer (some ⟨g, o, none⟩)) rfl (by kernel_rfl) (fun _ _ _ h => h) (by rfl) (fun x hS => by
    obtain s1 := hS
    go_simp) HSY.out ?_
  simp only [Act.put, List.getElem_toArray, List.getElem_cons_succ, List.getElem_cons_zero, List.setIfInBounds_toArray, List.set_cons_zero, List.set_cons_succ]
  refine takeU 2 (.pointer (some ⟨g, o + 1, none⟩)) rfl (by kernel_rfl) (fun _ _ _ h => h) (by rfl) (fun x hS => by
    obtain s1 := hS
    go_simp) HSY.out ?_
  simp only [Act.put, List.getElem_toArray, List.getElem_cons_succ, List.getElem_cons_zero, List.setIfInBounds_toArray, List.set_cons_zero, List.set_cons_succ]
  refine takeU 3 (.int .i64 (c : Int)) rfl (by kernel_rfl) (fun _ _ _ h => h) (by rfl) (fun x hS => by
    have q := HCC.out x hS
    go_simp) HSY.out ?_
  simp only [Act.put, List.getElem_toArray, List.getElem_cons_succ, List.getElem_cons_zero, List.setIfInBounds_toArray, List.set_cons_zero, List.set_cons_succ]
  refine takeU 4 (.agg (hcs h l).toArray) rfl (by kernel_rfl) (fun _ _ _ h => h) (by rfl) (fun x hS => exec_load 40 (.tmp 3) rfl (HLD.out x hS) rfl) HSY.out ?_
  simp only [Act.put, List.getElem_toArray, List.getElem_cons_succ, List.getElem_cons_zero, List.setIfInBounds_toArray, List.set_cons_zero, List.set_cons_succ]
  refine oneU 5 rfl (by kernel_rfl) (by rfl) ?_
  go_wp2_with fail
  refine (HCO.out Y HSY.out).mono ?_
  rintro e W5 ⟨rfl, hb5⟩
  have HSY5 : Hid (Below W4.heap.size W4 W5) := HSY.out.trans (hb5.mono HSY.out.size)
  clear hb5
  have HB5 : Hid (Blk W5 g 91 (cs.setIfInBounds o (.slice (some ⟨g3, 0, none⟩) (L.length + 1) c3))) := HB4.out.below HSY5.out HB4.out.lt
  have q5 : W5.cell? ⟨g, o + 1, none⟩ = some (.int .i64 (c : Int)) := HCC.out W5 HSY5.out
  have f5 := HB5.out.frozen (o + 1)
  have hC0 : (0 : Int) ≤ (costN h : Nat) := by omega
  have hC1 : ((costN h : Nat) : Int) ≤ 1048576 := by have := HOK.out.2.2.2.2; omega
  have HCE : Hid (((c + costN h : Nat) : Int) = (c : Int) + (costN h : Nat)) := by show _ = _; omega
  refine ⟨HSY5.out, ?_⟩
  try simp only [Act.put, List.getElem_toArray, List.getElem_cons_succ, List.getElem_cons_zero, List.setIfInBounds_toArray, List.set_cons_zero, List.set_cons_succ]
  refine oneU 6 rfl (by kernel_rfl) (by rfl) (runU (v := .int .i64 ((c : Int) + (costN h : Nat))) (x := W5) (by go_simp; exact IntWalk.i64_in _ (by omega)) ⟨fun _ => HSY5.out, ?_⟩)
  simp only [Act.put, List.getElem_toArray, List.getElem_cons_succ, List.getElem_cons_zero, List.setIfInBounds_toArray, List.set_cons_zero, List.set_cons_succ]
  refine oneU 7 rfl (by kernel_rfl) (by rfl) (runU (v := .pointer (some ⟨g, o, none⟩)) (x := W5) (by go_simp) ⟨fun _ => HSY5.out, ?_⟩)
  simp only [Act.put, List.getElem_toArray, List.getElem_cons_succ, List.getElem_cons_zero, List.setIfInBounds_toArray, List.set_cons_zero, List.set_cons_succ]
  refine oneU 8 rfl (by kernel_rfl) (by rfl) (runU (v := .pointer (some ⟨g, o + 1, none⟩)) (x := W5) (by go_simp) ⟨fun _ => HSY5.out, ?_⟩)
  simp only [Act.put, List.getElem_toArray, List.getElem_cons_succ, List.getElem_cons_zero, List.setIfInBounds_toArray, List.set_cons_zero, List.set_cons_succ]
  refine oneU 9 rfl (by kernel_rfl) (by rfl) ?_
  go_wp2_with fail
  refine doneU (by kernel_rfl) ?_ _
  have HB6 : Hid (Blk (W5.setCell ⟨g, o + 1, none⟩ (.int .i64 ((c : Int) + (costN h : Nat)))) g 91 ((cs.setIfInBounds o (.slice (some ⟨g3, 0, none⟩) (L.length + 1) c3)).setIfInBounds (o + 1) (.int .i64 ((c : Int) + (costN h : Nat))))) := HB5.out.set_ _ _
  have HF6 : Hid (Fr (fun q => q = g ∨ v.ownBlock = some q) W4 (W5.setCell ⟨g, o + 1, none⟩ (.int .i64 ((c : Int) + (costN h : Nat))))) := (Fr.of_below HSY5.out _).trans (Fr.of_set _ _ _) (fun q _ e => .inl e)
  have HO6 : Hid ((W5.setCell ⟨g, o + 1, none⟩ (.int .i64 ((c : Int) + (costN h : Nat)))).ownsRow 0 40 17 (.slice (some ⟨g3, 0, none⟩) (L.length + 1) c3) (L.length + 1) (hrow (L ++ [(h, l)]))) := (Fr.of_set _ _ _).own (own_keep HO4.out HSY5.out) (fun q hq => by cases hq; exact hg3g)
  generalize W5.setCell ⟨g, o + 1, none⟩ (.int .i64 ((c : Int) + (costN h : Nat))) = W6 at *
  clear q5 f5
  go_wp2
  go_end0
  refine ⟨rfl, (.slice (some ⟨g3, 0, none⟩) (L.length + 1) c3), ?_, HO6.out, ?_, HF4.out.trans HF6.out (fun _ _ e => e)⟩
  · rw [HCE.out]
    exact HB6.out
  · rcases HAT.out with e | e
    · exact .inl e
    · exact .inr ⟨_, e, hxs⟩
end Go.Proofs.Ytjijdpdbkpknpaa
