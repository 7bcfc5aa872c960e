/-
  lru's pull and push: a segment of the cache gives one response up, or takes one. Conditions: the cache's block and the segment's row read as their data say.
-/
import Derived.Test.YtjijdpdbkpknpaaLruFind
import Derived.Test.YtjijdpdbkpknpaaTailU
import Derived.IntWalk
namespace Go.Proofs.Ytjijdpdbkpknpaa
open Go Go.RowKit

/-- what is outside of O stays -/
structure Fr (O : Nat → Prop) (w w' : World) : Prop where
  os : w'.os = w.os
  tape : w'.tape = w.tape
  output : w'.output = w.output
  size : w.heap.size ≤ w'.heap.size
  block : ∀ q, q < w.heap.size → ¬ O q → w'.heap[q]? = w.heap[q]?
section
variable {O O' : Nat → Prop} {a b c : World}
theorem Fr.refl (O : Nat → Prop) (a : World) : Fr O a a := ⟨rfl, rfl, rfl, Nat.le_refl _, fun _ _ _ => rfl⟩
theorem Fr.trans (h : Fr O a b) (k : Fr O' b c) (hO : ∀ q, q < a.heap.size → O' q → O q) : Fr O a c :=
  ⟨k.os.trans h.os, k.tape.trans h.tape, k.output.trans h.output, Nat.le_trans h.size k.size, fun q hq hn => (k.block q (Nat.lt_of_lt_of_le hq h.size) (fun e => hn (hO q hq e))).trans (h.block q hq hn)⟩
theorem Fr.weak (h : Fr O a b) (hO : ∀ q, q < a.heap.size → O q → O' q) : Fr O' a b := ⟨h.os, h.tape, h.output, h.size, fun q hq hn => h.block q hq (fun e => hn (hO q hq e))⟩
theorem Fr.of_below (h : Below a.heap.size a b) (O : Nat → Prop) : Fr O a b := ⟨h.os, h.tape, h.output, h.size, fun q hq _ => h.block q hq⟩
theorem Fr.of_grown {r : Option Nat} (h : a.grownBy b r) : Fr (fun q => r = some q) a b := ⟨h.os, h.tape, h.output, h.size, fun q hq hn => h.block q hq (fun e => hn e.symm)⟩
theorem Fr.of_set (w : World) (p : Addr) (u : Value) : Fr (fun q => q = p.block) w (w.setCell p u) := ⟨rfl, rfl, rfl, by simp [World.setCell], fun q _ hn => Below.heap_setCell w p u q hn⟩
theorem Fr.below {B : Nat} (h : Fr O a b) (hB : B ≤ a.heap.size) (hO : ∀ q, O q → B ≤ q) : Below B a b :=
  ⟨h.os, h.tape, h.output, h.size, fun q hq => h.block q (by omega) (fun e => by have := hO q e; omega)⟩
theorem Fr.same {D : Nat → Prop} (h : Fr O a b) (hD : ∀ q, D q → q < a.heap.size ∧ ¬ O q) : Same D a b := fun q hq => h.block q (hD q hq).1 (hD q hq).2
theorem Fr.blk (h : Fr O a b) {g : Nat} {t : TypeId} {cs : Array Value} (hb : Blk a g t cs) (hg : ¬ O g) : Blk b g t cs := (h.block g hb.lt hg).trans hb
theorem Fr.own (h : Fr O a b) {base : Nat} {e : TypeId} {size n : Nat} {v : Value} {xs : List Value} (ho : a.ownsRow base e size v n xs) (hg : ∀ q, v.ownBlock = some q → ¬ O q) : b.ownsRow base e size v n xs := by
  refine ⟨ho.1, ?_⟩
  rcases ho.2 with hn | ⟨g, cap, cur, rfl, hb, hgg, rest⟩
  · exact .inl hn
  · exact .inr ⟨g, cap, cur, rfl, hb, (h.block g (Array.getElem?_eq_some_iff.1 hgg).1 (hg g rfl)).trans hgg, rest⟩
end

theorem own_type_ne {w : World} {base g : Nat} {e t : TypeId} {size n : Nat} {v : Value} {xs : List Value} {cs : Array Value} (h : w.ownsRow base e size v n xs) (hb : Blk w g t cs) (hne : e ≠ t) : ∀ q, v.ownBlock = some q → q ≠ g := fun q hq e' => by
  subst e'
  exact own_blk_ne h hb hne hq

/-- what a segment gives up -/
def Pulled (W : World) (g o : Nat) (cs : Array Value) (v : Value) (c : Nat) (L : List (Hd × Loc)) (i : Nat) (hi : i < L.length) (e : Ending) (W' : World) : Prop :=
  e = .returned (.agg (hcs L[i].1 L[i].2).toArray) ∧ ∃ v', Blk W' g 91 ((cs.setIfInBounds o v').setIfInBounds (o + 1) (.int .i64 ((c - costN L[i].1 : Nat) : Int))) ∧
    W'.ownsRow 0 40 17 v' (L.length - 1) (hrow (L.eraseIdx i)) ∧ v'.ownBlock = v.ownBlock ∧ Fr (fun q => q = g ∨ v.ownBlock = some q) W W'

set_option maxRecDepth 100000 in
set_option maxHeartbeats 2000000 in
theorem pull_any (W : World) (g o : Nat) (cs : Array Value) (v : Value) (c : Nat) (L : List (Hd × Loc)) (i : Nat) (D : Nat → Prop) (hi : i < L.length) (hl : L.length ≤ 1000000)
    (hb : Blk W g 91 cs) (h1 : cs[o]? = some v) (h2 : cs[o + 1]? = some (.int .i64 (c : Int))) (hown : W.ownsRow 0 40 17 v L.length (hrow L)) (hh : HeldD W D L[i].1 L[i].2) (hD : ∀ q, D q → q < W.heap.size ∧ q ≠ g ∧ v.ownBlock ≠ some q)
    (hok : L[i].1.ok) (hc1 : costN L[i].1 ≤ c) (hc2 : c ≤ 1099511627776) :
    Calls Try.prog 40 #[.pointer (some ⟨g, o, none⟩), .int .i64 (i : Int)] W (Pulled W g o cs v c L i hi) := by
  obtain ⟨gr, cap, rfl, _, hgr⟩ := hown.form (by omega)
  have hne : gr ≠ g := own_type_ne hown hb (by decide) gr rfl
  have c1 : W.cell? ⟨g, o, none⟩ = some (.slice (some ⟨gr, 0, none⟩) L.length cap) := (hb.cell o).trans h1
  have f1 := hb.frozen o
  have f2 := hb.frozen (o + 1)
  have HL := hide (fun (X : World) (hX : Below W.heap.size W X) => load_held X (⟨gr, i * 17, none⟩ : Addr) L[i].1 L[i].2 (fun j u hu => by
    refine (hX.cell (by rw [block_of_add]; exact hgr)).trans ?_
    have := hown.cells (g := gr) rfl _ _ (hrow_get L i hi j u hu)
    rw [add_flat, Nat.zero_add] at this
    rw [add_flat]
    exact this))
  have HDEL := hide (fun (X : World) (hX : Below W.heap.size W X) => delete_any L gr cap L.length i 0 X (own_keep hown hX) rfl hi hl)
  unfold Pulled
  generalize L[i].1 = h at *
  generalize L[i].2 = l at *
  have i1 : (0 : Int) ≤ (i : Int) := by omega
  have i2 : (i : Int) < (L.length : Int) := by omega
  have HB := hide hb
  have HH := hide hh
  have HO := hide hown
  have HDD := hide hD
  have HOK := hide hok
  have HZB0 : Hid (Blk (W.alloc (.cells heldZero 40)) W.heap.size 40 heldZero) := Blk.new _ _ _
  have HW1 : Hid (Below W.heap.size W (W.alloc (.cells heldZero 40)) ∧ (W.alloc (.cells heldZero 40)).heap.size = W.heap.size + 1) := ⟨(Below.refl _ _).alloc (Nat.le_refl _) _, by simp⟩
  have hz := fun W' => zero_held W'
  obtain ⟨W1, hA1⟩ : ∃ W1, W.alloc (.cells heldZero 40) = W1 := ⟨_, rfl⟩
  rw [hA1] at HW1 HZB0
  have hsc := cells_held_new W1 h l
  have HHB0 : Hid (Blk (W1.alloc (.cells (hcs h l).toArray 40)) W1.heap.size 40 (hcs h l).toArray) := Blk.new _ _ _
  have HW2 : Hid (Below W1.heap.size W1 (W1.alloc (.cells (hcs h l).toArray 40))) := (Below.refl _ _).alloc (Nat.le_refl _) _
  generalize W1.alloc (.cells (hcs h l).toArray 40) = W2 at *
  have hs12 : W1.heap.size < W2.heap.size := HHB0.out.lt
  have HWW : Hid (Below W.heap.size W W2) := HW1.out.1.trans (HW2.out.mono HW1.out.1.size)
  have HL1 := hide (HL.out W1 HW1.out.1)
  have HCON := hide (HDEL.out W2 HWW.out)
  have hgs : g < W.heap.size := hb.lt
  have c1' : W1.cell? ⟨g, o, none⟩ = some (.slice (some ⟨gr, 0, none⟩) L.length cap) := (HW1.out.1.cell (p := ⟨g, o, none⟩) hgs).trans c1
  have c1'' : W2.cell? ⟨g, o, none⟩ = some (.slice (some ⟨gr, 0, none⟩) L.length cap) := (HWW.out.cell (p := ⟨g, o, none⟩) hgs).trans c1
  have HC2 := hide h2
  have HOS := hide h1
  clear hb hh hown hD hok h1 h2 HL HDEL c1 f1 f2
  go_enter Try.func40, Try.ntmps40
  go_wp2_with (with_reducible refine wpList_load_run rfl 40 (.tmp 11) rfl HL1.out rfl ?_)
  clear hA1 hsc hz
  refine (unhide HCON).mono ?_
  rintro e W3 ⟨rfl, hown3, hg3⟩
  have HO3 := hide hown3
  have HG3 := hide hg3
  clear hown3 hg3 HCON
  have hb3 : Hid (Blk W3 g 91 cs) := ((HB.out.below HWW.out HB.out.lt)).grown HG3.out (fun e => hne (by injection e with e; exact e.symm))
  have c3 : W3.cell? ⟨g, o, none⟩ = some (.slice (some ⟨gr, 0, none⟩) L.length cap) := (hb3.out.cell o).trans HOS.out
  have f3 := hb3.out.frozen o
  have HB4 : Hid (Blk (W3.setCell ⟨g, o, none⟩ (.slice (some ⟨gr, 0, none⟩) (L.length - 1) cap)) g 91 (cs.setIfInBounds o (.slice (some ⟨gr, 0, none⟩) (L.length - 1) cap))) := hb3.out.set_ o _
  have HO4 : Hid ((W3.setCell ⟨g, o, none⟩ (.slice (some ⟨gr, 0, none⟩) (L.length - 1) cap)).ownsRow 0 40 17 (.slice (some ⟨gr, 0, none⟩) (L.length - 1) cap) (L.length - 1) (hrow (L.eraseIdx i))) := (Fr.of_set _ _ _).own HO3.out (fun q hq => by cases hq; exact hne)
  have HF23 : Hid (Fr (fun q => q = g ∨ some gr = some q) W2 (W3.setCell ⟨g, o, none⟩ (.slice (some ⟨gr, 0, none⟩) (L.length - 1) cap))) := (Fr.of_grown HG3.out |>.weak (fun q _ e => .inr e)).trans (Fr.of_set _ _ _) (fun q _ e => .inl e)
  have HHB4 : Hid (Blk (W3.setCell ⟨g, o, none⟩ (.slice (some ⟨gr, 0, none⟩) (L.length - 1) cap)) W1.heap.size 40 (hcs h l).toArray) := HF23.out.blk HHB0.out (fun e => by
    have := HW1.out.1.size
    rcases e with e | e
    · omega
    · injection e with e
      omega)
  have HZB4 : Hid (Blk (W3.setCell ⟨g, o, none⟩ (.slice (some ⟨gr, 0, none⟩) (L.length - 1) cap)) W.heap.size 40 heldZero) := HF23.out.blk (HZB0.out.below HW2.out HZB0.out.lt) (fun e => by
    rcases e with e | e
    · omega
    · injection e with e
      omega)
  go_wp2_with fail
  generalize W3.setCell ⟨g, o, none⟩ (.slice (some ⟨gr, 0, none⟩) (L.length - 1) cap) = W4 at *
  clear c3 f3 c1' c1''
  have HF4 : Hid (Fr (fun q => q = g ∨ some gr = some q) W W4) := (Fr.of_below HWW.out _).trans HF23.out (fun _ _ e => e)
  have HCC : Hid (∀ x, Below W4.heap.size W4 x → x.cell? ⟨g, o + 1, none⟩ = some (.int .i64 (c : Int))) := fun x hx => by
    refine (hx.cell (p := ⟨g, o + 1, none⟩) HB4.out.lt).trans ((HB4.out.cell _).trans ?_)
    rw [Array.getElem?_setIfInBounds_ne (by omega)]
    exact HC2.out
  have HLD : Hid (∀ x, Below W4.heap.size W4 x → (Instr.loadAt 40 (.pointer (some ⟨W1.heap.size, 0, none⟩))).run Try.prog x = .ok (.agg (hcs h l).toArray) x) := fun x hx => load_held_blk x _ _ h l (HHB4.out.below hx HHB4.out.lt)
  have HCO : Hid (∀ x, Below W4.heap.size W4 x → Calls Try.prog 19 #[.agg (hcs h l).toArray] x fun e w' => e = .returned (.int .i64 (costN h : Nat)) ∧ Below x.heap.size x w') := fun x hx => by
    have hs := HF4.out.same (D := D) (fun q hq => ⟨(HDD.out q hq).1, fun e => by
      rcases e with e | e
      · exact (HDD.out q hq).2.1 e
      · exact (HDD.out q hq).2.2 e⟩)
    have hr : Reads W4 W.heap.size 2 l.af h.fields.length (flds h.fields) := (HH.out.keep hs).fields.reads (fun q hq => (HDD.out q hq).1)
    have h4 := HF4.out.size
    have := hx.size
    exact cost_any h l W.heap.size x (hr.below (hx.mono h4)) (by omega) HOK.out.2.1 (by omega)
  refine region_U (fun x => Below W4.heap.size W4 x) 9 (by kernel_rfl) ?_
  intro Y hY
  have HSY : Hid (Below W4.heap.size W4 Y) := by rw [hY]; exact (Below.refl _ _).drew
  clear hY
  refine takeU 0 (.pointer (some ⟨g, o, none⟩)) rfl (by kernel_rfl) (fun _ _ _ h => h) (by rfl) (fun x hS => by
    obtain s1 := hS
    go_simp) HSY.out ?_
  simp only [Act.put, List.getElem_toArray, List.getElem_cons_succ, List.getElem_cons_zero, List.setIfInBounds_toArray, List.set_cons_zero, List.set_cons_succ]
  refine takeU 1 (.pointer (some ⟨g, o, none⟩)) rfl (by kernel_rfl) (fun _ _ _ h => h) (by rfl) (fun x hS => by
    obtain s1 := hS
    go_simp) HSY.out ?_
  simp only [Act.put, List.getElem_toArray, List.getElem_cons_succ, List.getElem_cons_zero, List.setIfInBounds_toArray, List.set_cons_zero, List.set_cons_succ]
  refine takeU 2 (.pointer (some ⟨g, o + 1, none⟩)) rfl (by kernel_rfl) (fun _ _ _ h => h) (by rfl) (fun x hS => by
    obtain s1 := hS
    go_simp) HSY.out ?_
  simp only [Act.put, List.getElem_toArray, List.getElem_cons_succ, List.getElem_cons_zero, List.setIfInBounds_toArray, List.set_cons_zero, List.set_cons_succ]
  refine takeU 3 (.int .i64 (c : Int)) rfl (by kernel_rfl) (fun _ _ _ h => h) (by rfl) (fun x hS => by
    have q := HCC.out x hS
    go_simp) HSY.out ?_
  simp only [Act.put, List.getElem_toArray, List.getElem_cons_succ, List.getElem_cons_zero, List.setIfInBounds_toArray, List.set_cons_zero, List.set_cons_succ]
  refine takeU 4 (.agg (hcs h l).toArray) rfl (by kernel_rfl) (fun _ _ _ h => h) (by rfl) (fun x hS => exec_load 40 (.tmp 5) rfl (HLD.out x hS) rfl) HSY.out ?_
  simp only [Act.put, List.getElem_toArray, List.getElem_cons_succ, List.getElem_cons_zero, List.setIfInBounds_toArray, List.set_cons_zero, List.set_cons_succ]
  refine oneU 5 rfl (by kernel_rfl) (by rfl) ?_
  go_wp2_with fail
  refine (HCO.out Y HSY.out).mono ?_
  rintro e W5 ⟨rfl, hb5⟩
  have HSY5 : Hid (Below W4.heap.size W4 W5) := HSY.out.trans (hb5.mono HSY.out.size)
  clear hb5
  have HB5 : Hid (Blk W5 g 91 (cs.setIfInBounds o (.slice (some ⟨gr, 0, none⟩) (L.length - 1) cap))) := HB4.out.below HSY5.out HB4.out.lt
  have q5 : W5.cell? ⟨g, o + 1, none⟩ = some (.int .i64 (c : Int)) := HCC.out W5 HSY5.out
  have f5 := HB5.out.frozen (o + 1)
  have hC0 : (0 : Int) ≤ (costN h : Nat) := by omega
  have hC1 : ((costN h : Nat) : Int) ≤ (c : Int) := by omega
  have HCE : Hid (((c - costN h : Nat) : Int) = (c : Int) - (costN h : Nat)) := by show _ = _; omega
  refine ⟨HSY5.out, ?_⟩
  try simp only [Act.put, List.getElem_toArray, List.getElem_cons_succ, List.getElem_cons_zero, List.setIfInBounds_toArray, List.set_cons_zero, List.set_cons_succ]
  refine oneU 6 rfl (by kernel_rfl) (by rfl) (runU (v := .int .i64 ((c : Int) - (costN h : Nat))) (x := W5) (by go_simp; exact IntWalk.i64_in _ (by omega)) ⟨fun _ => HSY5.out, ?_⟩)
  simp only [Act.put, List.getElem_toArray, List.getElem_cons_succ, List.getElem_cons_zero, List.setIfInBounds_toArray, List.set_cons_zero, List.set_cons_succ]
  refine oneU 7 rfl (by kernel_rfl) (by rfl) (runU (v := .pointer (some ⟨g, o, none⟩)) (x := W5) (by go_simp) ⟨fun _ => HSY5.out, ?_⟩)
  simp only [Act.put, List.getElem_toArray, List.getElem_cons_succ, List.getElem_cons_zero, List.setIfInBounds_toArray, List.set_cons_zero, List.set_cons_succ]
  refine oneU 8 rfl (by kernel_rfl) (by rfl) (runU (v := .pointer (some ⟨g, o + 1, none⟩)) (x := W5) (by go_simp) ⟨fun _ => HSY5.out, ?_⟩)
  simp only [Act.put, List.getElem_toArray, List.getElem_cons_succ, List.getElem_cons_zero, List.setIfInBounds_toArray, List.set_cons_zero, List.set_cons_succ]
  refine oneU 9 rfl (by kernel_rfl) (by rfl) ?_
  go_wp2_with fail
  refine doneU (by kernel_rfl) ?_ _
  have HB6 : Hid (Blk (W5.setCell ⟨g, o + 1, none⟩ (.int .i64 ((c : Int) - (costN h : Nat)))) g 91 ((cs.setIfInBounds o (.slice (some ⟨gr, 0, none⟩) (L.length - 1) cap)).setIfInBounds (o + 1) (.int .i64 ((c : Int) - (costN h : Nat))))) := HB5.out.set_ _ _
  have HF6 : Hid (Fr (fun q => q = g ∨ some gr = some q) W4 (W5.setCell ⟨g, o + 1, none⟩ (.int .i64 ((c : Int) - (costN h : Nat))))) := (Fr.of_below HSY5.out _).trans (Fr.of_set _ _ _) (fun q _ e => .inl e)
  have HO6 : Hid ((W5.setCell ⟨g, o + 1, none⟩ (.int .i64 ((c : Int) - (costN h : Nat)))).ownsRow 0 40 17 (.slice (some ⟨gr, 0, none⟩) (L.length - 1) cap) (L.length - 1) (hrow (L.eraseIdx i))) := (Fr.of_set _ _ _).own (own_keep HO4.out HSY5.out) (fun q hq => by cases hq; exact hne)
  have HLD6 : Hid ((Instr.loadAt 40 (.pointer (some ⟨W1.heap.size, 0, none⟩))).run Try.prog (W5.setCell ⟨g, o + 1, none⟩ (.int .i64 ((c : Int) - (costN h : Nat)))) = .ok (.agg (hcs h l).toArray) (W5.setCell ⟨g, o + 1, none⟩ (.int .i64 ((c : Int) - (costN h : Nat))))) := load_held_blk _ _ _ h l (HF6.out.blk HHB4.out (fun e => by
    have := HW1.out.1.size
    rcases e with e | e
    · omega
    · injection e with e
      omega))
  have HZB6 : Hid (Blk (W5.setCell ⟨g, o + 1, none⟩ (.int .i64 ((c : Int) - (costN h : Nat)))) W.heap.size 40 heldZero) := HF6.out.blk HZB4.out (fun e => by
    rcases e with e | e
    · omega
    · injection e with e
      omega)
  generalize W5.setCell ⟨g, o + 1, none⟩ (.int .i64 ((c : Int) - (costN h : Nat))) = W6 at *
  have hst := cells_held_blk W6 _ _ _ h l HZB6.out rfl
  have HB7 : Hid (Blk (W6.setRow W.heap.size (hcs h l).toArray) W.heap.size 40 (hcs h l).toArray) := HZB6.out.setRow _
  have HF7 : Hid (Fr (fun q => some W.heap.size = some q) W6 (W6.setRow W.heap.size (hcs h l).toArray)) := Fr.of_grown (grown_setRow _ _ _)
  clear q5 f5
  go_wp2_with (with_reducible refine wpList_load_run rfl 40 (.tmp 5) rfl HLD6.out rfl ?_)
  clear hst
  generalize W6.setRow W.heap.size (hcs h l).toArray = W7 at *
  refine bodyPost_ret (results_cell Try.results40 (load_var_blk W7 _ _ h l HB7.out) rfl) rfl ⟨rfl, .slice (some ⟨gr, 0, none⟩) (L.length - 1) cap, ?_, ?_, rfl, ?_⟩
  · rw [HCE.out]
    exact HF7.out.blk HB6.out (fun e => by injection e with e; omega)
  · exact HF7.out.own HO6.out (fun q hq e => by injection e with e; injection hq with hq; simp at hq; omega)
  · refine (HF4.out.trans HF6.out (fun _ _ e => e)).trans HF7.out (fun q hq e => ?_)
    injection e with e
    omega
end Go.Proofs.Ytjijdpdbkpknpaa
