/-
  lru's copied: a response in new memory. Conditions: the slices read as lists.
-/
import Derived.Test.YtjijdpdbkpknpaaLruClone
namespace Go.Proofs.Ytjijdpdbkpknpaa
open Go Go.RowKit

/-- a response in new memory, from a block on -/
def Copied (W : World) (h : Hd) (e : Ending) (W' : World) : Prop := ∃ l', e = .returned (.agg (hcs h l').toArray) ∧ HeldD W' (fun q => W.heap.size + 2 ≤ q ∧ q < W'.heap.size) h l' ∧ Below W.heap.size W W'

/-- and the octets may be written -/
def CopiedT (W : World) (h : Hd) (e : Ending) (W' : World) : Prop := ∃ l', e = .returned (.agg (hcs h l').toArray) ∧ HeldD W' (fun q => W.heap.size + 2 ≤ q ∧ q < W'.heap.size) h l' ∧ Below W.heap.size W W' ∧ ReadsT W' (fun q => W.heap.size + 2 ≤ q) 1 l'.ay h.bytes.length (byts h.bytes)

theorem ReadsD.lt {w : World} {D : Nat → Prop} {size n : Nat} {A : Option Addr} {xs : List Value} (h : ReadsD w D size A n xs) (hs : 0 < size) : ReadsD w (fun q => D q ∧ q < w.heap.size) size A n xs :=
  ⟨h.1, fun hn => by
    obtain ⟨ad, e, hd, hc⟩ := h.2 hn
    have hl : 0 < xs.length := by rw [h.1]; exact Nat.mul_pos hn hs
    have := World.block_lt_of_cell? w _ (hc 0 _ (List.getElem?_eq_getElem hl))
    rw [block_of_add] at this
    exact ⟨ad, e, ⟨hd, this⟩, hc⟩⟩
theorem HeldD.lt {w : World} {D : Nat → Prop} {h : Hd} {l : Loc} (H : HeldD w D h l) : HeldD w (fun q => D q ∧ q < w.heap.size) h l := ⟨H.names.lt (by omega), H.fields.lt (by omega), H.body.lt (by omega), H.bytes.lt (by omega)⟩

set_option maxRecDepth 100000 in
set_option maxHeartbeats 4000000 in
theorem copied_anyT (W : World) (h : Hd) (l : Loc) (D : Nat → Prop) (hh : HeldD W D h l) (hD : ∀ q, D q → q < W.heap.size) (hok : h.names.length ≤ 1000 ∧ h.fields.length ≤ 1000 ∧ h.body.length ≤ 1000 ∧ h.bytes.length ≤ 1000000) :
    Calls Try.prog 42 #[.agg (hcs h l).toArray] W (CopiedT W h) := by
  unfold CopiedT
  have HH := hide hh
  have HDD := hide hD
  have HOK := hide hok
  clear hh hD hok
  have hz := fun W' => zero_held W'
  have HHB1 : Hid (Blk (W.alloc (.cells (hcs h l).toArray 40)) W.heap.size 40 (hcs h l).toArray) := Blk.new _ _ _
  have HW1 : Hid (Below W.heap.size W (W.alloc (.cells (hcs h l).toArray 40)) ∧ (W.alloc (.cells (hcs h l).toArray 40)).heap.size = W.heap.size + 1) := ⟨(Below.refl _ _).alloc (Nat.le_refl _) _, by simp⟩
  obtain ⟨W1, hA1⟩ : ∃ W1, W.alloc (.cells (hcs h l).toArray 40) = W1 := ⟨_, rfl⟩
  rw [hA1] at HW1 HHB1
  have hs1 : W1.heap.size = W.heap.size + 1 := HW1.out.2
  have HZB2 : Hid (Blk (W1.alloc (.cells heldZero 40)) (W.heap.size + 1) 40 heldZero) := by rw [← HW1.out.2]; exact Blk.new _ _ _
  have HW2 : Hid (Below W1.heap.size W1 (W1.alloc (.cells heldZero 40)) ∧ (W1.alloc (.cells heldZero 40)).heap.size = W1.heap.size + 1) := ⟨(Below.refl _ _).alloc (Nat.le_refl _) _, by simp⟩
  obtain ⟨W2, hA2⟩ : ∃ W2, W1.alloc (.cells heldZero 40) = W2 := ⟨_, rfl⟩
  rw [hA2] at HW2 HZB2
  go_enter Try.func42, Try.ntmps42
  go_wp2_with fail
  clear hA1 hA2 hz
  generalize hq0 : W.heap.size = q0 at *
  have HSZ : Hid (q0 + 2 ≤ W2.drew.heap.size) := by
    show q0 + 2 ≤ W2.heap.size
    rw [HW2.out.2, HW1.out.2]
    exact Nat.le_refl _
  have HDQ : Hid (∀ q, q0 + 2 ≤ q → ¬ q = q0) := fun q hq => by omega
  have HFW : Hid (∀ X, Fr (fun q => q = q0) W2.drew X → HeldD X D h l) := fun X hX => by
    have hb : Below q0 W W2.drew := (HW1.out.1.trans (HW2.out.1.mono (by omega))).drew
    refine (HH.out.keep (Same.of_below hb (fun q hq => by have := HDD.out q hq; omega))).keep (hX.same (fun q hq => ?_))
    have h1 := HDD.out q hq
    have h2 := hb.size
    exact ⟨by omega, fun e => by omega⟩
  have HR1 : Hid (∀ X, Fr (fun q => q = q0) W2.drew X → Reads X q0 1 l.an h.names.length (strs h.names)) := fun X hX => (HFW.out X hX).names.reads (fun q hq => by have := HDD.out q hq; omega)
  have HR2 : Hid (∀ X, Fr (fun q => q = q0) W2.drew X → Reads X q0 2 l.af h.fields.length (flds h.fields)) := fun X hX => (HFW.out X hX).fields.reads (fun q hq => by have := HDD.out q hq; omega)
  have HR3 : Hid (∀ X, Fr (fun q => q = q0) W2.drew X → Reads X q0 2 l.ab h.body.length (exts h.body)) := fun X hX => (HFW.out X hX).body.reads (fun q hq => by have := HDD.out q hq; omega)
  have HR4 : Hid (∀ X, Fr (fun q => q = q0) W2.drew X → Reads X q0 1 l.ay h.bytes.length (byts h.bytes)) := fun X hX => (HFW.out X hX).bytes.reads (fun q hq => by have := HDD.out q hq; omega)
  have HI0 : Hid (CopyI q0 (fun q => q0 + 2 ≤ q) h l (fun _ => False) W2.drew) := by
    refine ⟨l, ?_, ⟨fun _ => ⟨rfl, rfl⟩, False.elim⟩, ⟨fun _ => ⟨rfl, rfl⟩, False.elim⟩, ⟨fun _ => ⟨rfl, rfl⟩, False.elim⟩, ⟨fun _ => ⟨rfl, rfl⟩, False.elim⟩⟩
    have := HHB1.out.below HW2.out.1 HHB1.out.lt
    exact this.drew
  refine wp_region_phase (Fr (fun q => q = q0)) (CopyI q0 (fun q => q0 + 2 ≤ q) h l) (listV [isV (.pointer (some ⟨q0, 1, none⟩)), isV (.pointer (some ⟨q0, 2, none⟩)), isV (.slice l.an h.names.length l.cn), CloneT (fun q => q0 + 2 ≤ q) 1 h.names.length (strs h.names), isV (.pointer (some ⟨q0, 1, none⟩)), isV (.pointer (some ⟨q0, 9, none⟩)), isV (.slice l.af h.fields.length l.cf), CloneT (fun q => q0 + 2 ≤ q) 2 h.fields.length (flds h.fields), isV (.pointer (some ⟨q0, 1, none⟩)), isV (.pointer (some ⟨q0, 15, none⟩)), isV (.slice l.ab h.body.length l.cb), CloneT (fun q => q0 + 2 ≤ q) 2 h.body.length (exts h.body), isV (.pointer (some ⟨q0, 16, none⟩)), isV (.slice l.ay h.bytes.length l.cy), CloneT (fun q => q0 + 2 ≤ q) 1 h.bytes.length (byts h.bytes), isV (.pointer (some ⟨q0, 1, none⟩)), isV (.pointer (some ⟨q0, 2, none⟩)), isV (undef), isV (.pointer (some ⟨q0, 1, none⟩)), isV (.pointer (some ⟨q0, 9, none⟩)), isV (undef), isV (.pointer (some ⟨q0, 1, none⟩)), isV (.pointer (some ⟨q0, 15, none⟩)), isV (undef), isV (.pointer (some ⟨q0, 16, none⟩)), isV (undef)]) (by kernel_rfl) (by kernel_rfl) (pre_fr _) (listV_stableP ?_) HI0.out ?_ ?_
  · exact ⟨isV_stableP _ _, isV_stableP _ _, isV_stableP _ _, (CloneT_stable HDQ.out), isV_stableP _ _, isV_stableP _ _, isV_stableP _ _, (CloneT_stable HDQ.out), isV_stableP _ _, isV_stableP _ _, isV_stableP _ _, (CloneT_stable HDQ.out), isV_stableP _ _, isV_stableP _ _, (CloneT_stable HDQ.out), isV_stableP _ _, isV_stableP _ _, isV_stableP _ _, isV_stableP _ _, isV_stableP _ _, isV_stableP _ _, isV_stableP _ _, isV_stableP _ _, isV_stableP _ _, isV_stableP _ _, isV_stableP _ _, trivial⟩
  refine ⟨fun vs wk L hbk hi hL hcl hd => ?_, fun vs wk L hbk hi hL hcl hd => ?_, fun vs wk L hbk hi hL hcl hd => ?_, fun vs wk L hbk hi hL hcl hd => ?_, fun vs wk L hbk hi hL hcl hd => ?_, fun vs wk L hbk hi hL hcl hd => ?_, fun vs wk L hbk hi hL hcl hd => ?_, fun vs wk L hbk hi hL hcl hd => ?_, fun vs wk L hbk hi hL hcl hd => ?_, fun vs wk L hbk hi hL hcl hd => ?_, fun vs wk L hbk hi hL hcl hd => ?_, fun vs wk L hbk hi hL hcl hd => ?_, fun vs wk L hbk hi hL hcl hd => ?_, fun vs wk L hbk hi hL hcl hd => ?_, fun vs wk L hbk hi hL hcl hd => ?_, fun vs wk L hbk hi hL hcl hd => ?_, fun vs wk L hbk hi hL hcl hd => ?_, fun vs wk L hbk hi hL hcl hd => ?_, fun vs wk L hbk hi hL hcl hd => ?_, fun vs wk L hbk hi hL hcl hd => ?_, fun vs wk L hbk hi hL hcl hd => ?_, fun vs wk L hbk hi hL hcl hd => ?_, fun vs wk L hbk hi hL hcl hd => ?_, fun vs wk L hbk hi hL hcl hd => ?_, fun vs wk L hbk hi hL hcl hd => ?_, fun vs wk L hbk hi hL hcl hd => ?_, trivial⟩
  -- 0: Op.fieldAddr 40 t1 1
  · clear hd
    go_wp2
    exact ⟨rfl, rfl, rfl, Fr.refl _ _, hi.stay (by decide) (Below.refl _ _)⟩
  -- 1: Op.fieldAddr 38 t3 1
  · simp only [Act.put, List.setIfInBounds_toArray, List.set_cons_zero, List.set_cons_succ]
    have e0 : vs 0 = .pointer (some ⟨q0, 1, none⟩) := (hd 0 (by kernel_rfl)).2
    clear hd
    go_wp2
    first | exact ⟨rfl, rfl, rfl, Fr.refl _ _, hi.stay (by decide) (Below.refl _ _)⟩ | exact ⟨rfl, rfl, e0, Fr.refl _ _, hi.stay (by decide) (Below.refl _ _)⟩
  -- 2: Op.load 28 t4
  · simp only [Act.put, List.setIfInBounds_toArray, List.set_cons_zero, List.set_cons_succ, Nat.reduceAdd]
    have e1 : vs 1 = .pointer (some ⟨q0, 2, none⟩) := (hd 1 (by kernel_rfl)).2
    have q17 := hi.c17 (fun e => hL (hcl 17 _ rfl e _ (by kernel_rfl)))
    clear hd
    go_wp2
    first | exact ⟨rfl, rfl, rfl, Fr.refl _ _, hi.stay (by decide) (Below.refl _ _)⟩ | exact ⟨rfl, rfl, e1, Fr.refl _ _, hi.stay (by decide) (Below.refl _ _)⟩
  -- 3: Op.call { value (Operand.func 76), args := #[t5], argTypes := #[28] }
  · simp only [Act.put, List.setIfInBounds_toArray, List.set_cons_zero, List.set_cons_succ, Nat.reduceAdd]
    have e2 : vs 2 = .slice l.an h.names.length l.cn := (hd 2 (by kernel_rfl)).2
    clear hd
    have hr := HR1.out wk hbk
    have hsz := hbk.size
    go_wp2_with fail
    refine (clone_str _ _ _ q0 _ wk (by have := HOK.out; omega) (Nat.le_trans (by omega) (Nat.le_trans HSZ.out hsz)) strs_one hr).mono ?_
    rintro e w' ⟨A, c, rfl, hr', hb'⟩
    have hi' := hi.stay (k := 3) (by decide) hb'
    have hk' := Fr.of_below hb' (fun q => q = q0)
    have hr2 := hr'.weak (D' := fun q => q0 + 2 ≤ q) (fun q hq => Nat.le_trans (Nat.le_trans HSZ.out hsz) hq)
    clear hi hr hr' hb'
    go_wp2
    exact ⟨rfl, rfl, ⟨A, c, rfl, hr2⟩, hk', hi'⟩
  -- 4: Op.fieldAddr 40 t1 1
  · simp only [Act.put, List.setIfInBounds_toArray, List.set_cons_zero, List.set_cons_succ, Nat.reduceAdd]
    clear hd
    go_wp2
    exact ⟨rfl, rfl, rfl, Fr.refl _ _, hi.stay (by decide) (Below.refl _ _)⟩
  -- 5: Op.fieldAddr 38 t7 4
  · simp only [Act.put, List.setIfInBounds_toArray, List.set_cons_zero, List.set_cons_succ, Nat.reduceAdd]
    have e4 : vs 4 = .pointer (some ⟨q0, 1, none⟩) := (hd 4 (by kernel_rfl)).2
    clear hd
    go_wp2
    first | exact ⟨rfl, rfl, rfl, Fr.refl _ _, hi.stay (by decide) (Below.refl _ _)⟩ | exact ⟨rfl, rfl, e4, Fr.refl _ _, hi.stay (by decide) (Below.refl _ _)⟩
  -- 6: Op.load 32 t8
  · simp only [Act.put, List.setIfInBounds_toArray, List.set_cons_zero, List.set_cons_succ, Nat.reduceAdd]
    have e5 : vs 5 = .pointer (some ⟨q0, 9, none⟩) := (hd 5 (by kernel_rfl)).2
    have q20 := hi.c20 (fun e => hL (hcl 20 _ rfl e _ (by kernel_rfl)))
    clear hd
    go_wp2
    first | exact ⟨rfl, rfl, rfl, Fr.refl _ _, hi.stay (by decide) (Below.refl _ _)⟩ | exact ⟨rfl, rfl, e5, Fr.refl _ _, hi.stay (by decide) (Below.refl _ _)⟩
  -- 7: Op.call { value (Operand.func 77), args := #[t9], argTypes := #[32] }
  · simp only [Act.put, List.setIfInBounds_toArray, List.set_cons_zero, List.set_cons_succ, Nat.reduceAdd]
    have e6 : vs 6 = .slice l.af h.fields.length l.cf := (hd 6 (by kernel_rfl)).2
    clear hd
    have hr := HR2.out wk hbk
    have hsz := hbk.size
    go_wp2_with fail
    refine (clone_fld _ _ _ q0 _ wk (by have := HOK.out; omega) (Nat.le_trans (by omega) (Nat.le_trans HSZ.out hsz)) flds_one hr).mono ?_
    rintro e w' ⟨A, c, rfl, hr', hb'⟩
    have hi' := hi.stay (k := 7) (by decide) hb'
    have hk' := Fr.of_below hb' (fun q => q = q0)
    have hr2 := hr'.weak (D' := fun q => q0 + 2 ≤ q) (fun q hq => Nat.le_trans (Nat.le_trans HSZ.out hsz) hq)
    clear hi hr hr' hb'
    go_wp2
    exact ⟨rfl, rfl, ⟨A, c, rfl, hr2⟩, hk', hi'⟩
  -- 8: Op.fieldAddr 40 t1 1
  · simp only [Act.put, List.setIfInBounds_toArray, List.set_cons_zero, List.set_cons_succ, Nat.reduceAdd]
    clear hd
    go_wp2
    exact ⟨rfl, rfl, rfl, Fr.refl _ _, hi.stay (by decide) (Below.refl _ _)⟩
  -- 9: Op.fieldAddr 38 t11 9
  · simp only [Act.put, List.setIfInBounds_toArray, List.set_cons_zero, List.set_cons_succ, Nat.reduceAdd]
    have e8 : vs 8 = .pointer (some ⟨q0, 1, none⟩) := (hd 8 (by kernel_rfl)).2
    clear hd
    go_wp2
    first | exact ⟨rfl, rfl, rfl, Fr.refl _ _, hi.stay (by decide) (Below.refl _ _)⟩ | exact ⟨rfl, rfl, e8, Fr.refl _ _, hi.stay (by decide) (Below.refl _ _)⟩
  -- 10: Op.load 36 t12
  · simp only [Act.put, List.setIfInBounds_toArray, List.set_cons_zero, List.set_cons_succ, Nat.reduceAdd]
    have e9 : vs 9 = .pointer (some ⟨q0, 15, none⟩) := (hd 9 (by kernel_rfl)).2
    have q23 := hi.c23 (fun e => hL (hcl 23 _ rfl e _ (by kernel_rfl)))
    clear hd
    go_wp2
    first | exact ⟨rfl, rfl, rfl, Fr.refl _ _, hi.stay (by decide) (Below.refl _ _)⟩ | exact ⟨rfl, rfl, e9, Fr.refl _ _, hi.stay (by decide) (Below.refl _ _)⟩
  -- 11: Op.call { value (Operand.func 78), args := #[t13], argTypes := #[36] }
  · simp only [Act.put, List.setIfInBounds_toArray, List.set_cons_zero, List.set_cons_succ, Nat.reduceAdd]
    have e10 : vs 10 = .slice l.ab h.body.length l.cb := (hd 10 (by kernel_rfl)).2
    clear hd
    have hr := HR3.out wk hbk
    have hsz := hbk.size
    go_wp2_with fail
    refine (clone_ext _ _ _ q0 _ wk (by have := HOK.out; omega) (Nat.le_trans (by omega) (Nat.le_trans HSZ.out hsz)) exts_one hr).mono ?_
    rintro e w' ⟨A, c, rfl, hr', hb'⟩
    have hi' := hi.stay (k := 11) (by decide) hb'
    have hk' := Fr.of_below hb' (fun q => q = q0)
    have hr2 := hr'.weak (D' := fun q => q0 + 2 ≤ q) (fun q hq => Nat.le_trans (Nat.le_trans HSZ.out hsz) hq)
    clear hi hr hr' hb'
    go_wp2
    exact ⟨rfl, rfl, ⟨A, c, rfl, hr2⟩, hk', hi'⟩
  -- 12: Op.fieldAddr 40 t1 2
  · simp only [Act.put, List.setIfInBounds_toArray, List.set_cons_zero, List.set_cons_succ, Nat.reduceAdd]
    clear hd
    go_wp2
    exact ⟨rfl, rfl, rfl, Fr.refl _ _, hi.stay (by decide) (Below.refl _ _)⟩
  -- 13: Op.load 27 t15
  · simp only [Act.put, List.setIfInBounds_toArray, List.set_cons_zero, List.set_cons_succ, Nat.reduceAdd]
    have e12 : vs 12 = .pointer (some ⟨q0, 16, none⟩) := (hd 12 (by kernel_rfl)).2
    have q25 := hi.c25 (fun e => hL (hcl 25 _ rfl e _ (by kernel_rfl)))
    clear hd
    go_wp2
    first | exact ⟨rfl, rfl, rfl, Fr.refl _ _, hi.stay (by decide) (Below.refl _ _)⟩ | exact ⟨rfl, rfl, e12, Fr.refl _ _, hi.stay (by decide) (Below.refl _ _)⟩
  -- 14: Op.call { value (Operand.func 70), args := #[t16], argTypes := #[27] }
  · simp only [Act.put, List.setIfInBounds_toArray, List.set_cons_zero, List.set_cons_succ, Nat.reduceAdd]
    have e13 : vs 13 = .slice l.ay h.bytes.length l.cy := (hd 13 (by kernel_rfl)).2
    clear hd
    have hr := HR4.out wk hbk
    have hsz := hbk.size
    go_wp2_with fail
    refine (clone_byt _ _ _ q0 _ wk (by have := HOK.out; omega) (Nat.le_trans (by omega) (Nat.le_trans HSZ.out hsz)) byts_one hr).mono ?_
    rintro e w' ⟨A, c, rfl, hr', hb'⟩
    have hi' := hi.stay (k := 14) (by decide) hb'
    have hk' := Fr.of_below hb' (fun q => q = q0)
    have hr2 := hr'.weak (D' := fun q => q0 + 2 ≤ q) (fun q hq => Nat.le_trans (Nat.le_trans HSZ.out hsz) hq)
    clear hi hr hr' hb'
    go_wp2
    exact ⟨rfl, rfl, ⟨A, c, rfl, hr2⟩, hk', hi'⟩
  -- 15: Op.fieldAddr 40 t1 1
  · simp only [Act.put, List.setIfInBounds_toArray, List.set_cons_zero, List.set_cons_succ, Nat.reduceAdd]
    clear hd
    go_wp2
    exact ⟨rfl, rfl, rfl, Fr.refl _ _, hi.stay (by decide) (Below.refl _ _)⟩
  -- 16: Op.fieldAddr 38 t18 1
  · simp only [Act.put, List.setIfInBounds_toArray, List.set_cons_zero, List.set_cons_succ, Nat.reduceAdd]
    have e15 : vs 15 = .pointer (some ⟨q0, 1, none⟩) := (hd 15 (by kernel_rfl)).2
    clear hd
    go_wp2
    first | exact ⟨rfl, rfl, rfl, Fr.refl _ _, hi.stay (by decide) (Below.refl _ _)⟩ | exact ⟨rfl, rfl, e15, Fr.refl _ _, hi.stay (by decide) (Below.refl _ _)⟩
  -- 17: Op.store 28 t19 t6
  · simp only [Act.put, List.setIfInBounds_toArray, List.set_cons_zero, List.set_cons_succ, Nat.reduceAdd]
    have e16 : vs 16 = .pointer (some ⟨q0, 2, none⟩) := (hd 16 (by kernel_rfl)).2
    obtain ⟨A3, c3, e3, r3⟩ := (show (CloneT (fun q => q0 + 2 ≤ q) 1 h.names.length (strs h.names)) (vs 3) wk from (hd 3 (by kernel_rfl)).2)
    clear hd
    have hst := hi.put17 HDQ.out (c := c3) r3
    obtain ⟨⟨u, hu⟩, hfz⟩ := hi.cell 2 (by decide)
    have hK := Fr.of_set wk ⟨q0, 2, none⟩ (.slice A3 h.names.length c3)
    clear hi
    go_wp2
    exact ⟨rfl, rfl, rfl, hK, hst⟩
  -- 18: Op.fieldAddr 40 t1 1
  · simp only [Act.put, List.setIfInBounds_toArray, List.set_cons_zero, List.set_cons_succ, Nat.reduceAdd]
    clear hd
    go_wp2
    exact ⟨rfl, rfl, rfl, Fr.refl _ _, hi.stay (by decide) (Below.refl _ _)⟩
  -- 19: Op.fieldAddr 38 t20 4
  · simp only [Act.put, List.setIfInBounds_toArray, List.set_cons_zero, List.set_cons_succ, Nat.reduceAdd]
    have e18 : vs 18 = .pointer (some ⟨q0, 1, none⟩) := (hd 18 (by kernel_rfl)).2
    clear hd
    go_wp2
    first | exact ⟨rfl, rfl, rfl, Fr.refl _ _, hi.stay (by decide) (Below.refl _ _)⟩ | exact ⟨rfl, rfl, e18, Fr.refl _ _, hi.stay (by decide) (Below.refl _ _)⟩
  -- 20: Op.store 32 t21 t10
  · simp only [Act.put, List.setIfInBounds_toArray, List.set_cons_zero, List.set_cons_succ, Nat.reduceAdd]
    have e19 : vs 19 = .pointer (some ⟨q0, 9, none⟩) := (hd 19 (by kernel_rfl)).2
    obtain ⟨A7, c7, e7, r7⟩ := (show (CloneT (fun q => q0 + 2 ≤ q) 2 h.fields.length (flds h.fields)) (vs 7) wk from (hd 7 (by kernel_rfl)).2)
    clear hd
    have hst := hi.put20 HDQ.out (c := c7) r7
    obtain ⟨⟨u, hu⟩, hfz⟩ := hi.cell 9 (by decide)
    have hK := Fr.of_set wk ⟨q0, 9, none⟩ (.slice A7 h.fields.length c7)
    clear hi
    go_wp2
    exact ⟨rfl, rfl, rfl, hK, hst⟩
  -- 21: Op.fieldAddr 40 t1 1
  · simp only [Act.put, List.setIfInBounds_toArray, List.set_cons_zero, List.set_cons_succ, Nat.reduceAdd]
    clear hd
    go_wp2
    exact ⟨rfl, rfl, rfl, Fr.refl _ _, hi.stay (by decide) (Below.refl _ _)⟩
  -- 22: Op.fieldAddr 38 t22 9
  · simp only [Act.put, List.setIfInBounds_toArray, List.set_cons_zero, List.set_cons_succ, Nat.reduceAdd]
    have e21 : vs 21 = .pointer (some ⟨q0, 1, none⟩) := (hd 21 (by kernel_rfl)).2
    clear hd
    go_wp2
    first | exact ⟨rfl, rfl, rfl, Fr.refl _ _, hi.stay (by decide) (Below.refl _ _)⟩ | exact ⟨rfl, rfl, e21, Fr.refl _ _, hi.stay (by decide) (Below.refl _ _)⟩
  -- 23: Op.store 36 t23 t14
  · simp only [Act.put, List.setIfInBounds_toArray, List.set_cons_zero, List.set_cons_succ, Nat.reduceAdd]
    have e22 : vs 22 = .pointer (some ⟨q0, 15, none⟩) := (hd 22 (by kernel_rfl)).2
    obtain ⟨A11, c11, e11, r11⟩ := (show (CloneT (fun q => q0 + 2 ≤ q) 2 h.body.length (exts h.body)) (vs 11) wk from (hd 11 (by kernel_rfl)).2)
    clear hd
    have hst := hi.put23 HDQ.out (c := c11) r11
    obtain ⟨⟨u, hu⟩, hfz⟩ := hi.cell 15 (by decide)
    have hK := Fr.of_set wk ⟨q0, 15, none⟩ (.slice A11 h.body.length c11)
    clear hi
    go_wp2
    exact ⟨rfl, rfl, rfl, hK, hst⟩
  -- 24: Op.fieldAddr 40 t1 2
  · simp only [Act.put, List.setIfInBounds_toArray, List.set_cons_zero, List.set_cons_succ, Nat.reduceAdd]
    clear hd
    go_wp2
    exact ⟨rfl, rfl, rfl, Fr.refl _ _, hi.stay (by decide) (Below.refl _ _)⟩
  -- 25: Op.store 27 t24 t17
  · simp only [Act.put, List.setIfInBounds_toArray, List.set_cons_zero, List.set_cons_succ, Nat.reduceAdd]
    have e24 : vs 24 = .pointer (some ⟨q0, 16, none⟩) := (hd 24 (by kernel_rfl)).2
    obtain ⟨A14, c14, e14, r14⟩ := (show (CloneT (fun q => q0 + 2 ≤ q) 1 h.bytes.length (byts h.bytes)) (vs 14) wk from (hd 14 (by kernel_rfl)).2)
    clear hd
    have hst := hi.put25 HDQ.out (c := c14) r14
    obtain ⟨⟨u, hu⟩, hfz⟩ := hi.cell 16 (by decide)
    have hK := Fr.of_set wk ⟨q0, 16, none⟩ (.slice A14 h.bytes.length c14)
    clear hi
    go_wp2
    exact ⟨rfl, rfl, rfl, hK, hst⟩
  intro vs wk L hbk hL hi hd
  simp only [putAll, Act.put, List.setIfInBounds_toArray, List.set_cons_zero, List.set_cons_succ, Nat.reduceAdd]
  clear hd
  obtain ⟨l', hblk, s1, s2, s3, s4⟩ := hi
  have HHD : Hid (HeldD wk (fun q => q0 + 2 ≤ q) h l') := ⟨(s1.2 (hL 17 (by decide))).rd, (s2.2 (hL 20 (by decide))).rd, (s3.2 (hL 23 (by decide))).rd, (s4.2 (hL 25 (by decide))).rd⟩
  have HTT := hide (s4.2 (hL 25 (by decide)))
  clear s1 s2 s3 s4 hL
  have HLD := hide (load_held_blk wk q0 _ h l' hblk)
  have hzb : Blk wk (q0 + 1) 40 heldZero := hbk.blk HZB2.out.drew (by omega)
  have hst := cells_held_blk wk (q0 + 1) _ _ h l' hzb rfl
  have HB7 : Hid (Blk (wk.setRow (q0 + 1) (hcs h l').toArray) (q0 + 1) 40 (hcs h l').toArray) := hzb.setRow _
  have hf7 : Fr (fun q => some (q0 + 1) = some q) wk (wk.setRow (q0 + 1) (hcs h l').toArray) := Fr.of_grown (grown_setRow _ _ _)
  have HH7 : Hid (HeldD (wk.setRow (q0 + 1) (hcs h l').toArray) (fun q => q0 + 2 ≤ q) h l') := HHD.out.fr hf7 (fun q hq e => by injection e with e; omega)
  have HT7 : Hid (ReadsT (wk.setRow (q0 + 1) (hcs h l').toArray) (fun q => q0 + 2 ≤ q) 1 l'.ay h.bytes.length (byts h.bytes)) := HTT.out.fr hf7 (fun q hq e => by injection e with e; omega)
  have hwd : Below q0 W W2.drew := (HW1.out.1.trans (HW2.out.1.mono (by omega))).drew
  have hkw := hbk.size
  have HBE : Hid (Below q0 W (wk.setRow (q0 + 1) (hcs h l').toArray)) := by
    have hq := HSZ.out
    exact (hwd.trans (hbk.below (B := q0) (by omega) (fun q e => by omega))).trans (hf7.below (by omega) (fun q e => by injection e with e; omega))
  clear hblk hzb hf7 hwd hkw hbk
  go_wp2_with (with_reducible refine wpList_load_run rfl 40 (.tmp 1) rfl HLD.out rfl ?_)
  clear hst
  generalize wk.setRow (q0 + 1) (hcs h l').toArray = W7 at *
  refine bodyPost_ret (results_cell Try.results42 (load_var_blk W7 _ _ h l' HB7.out) rfl) rfl ⟨l', rfl, ?_, ?_, ?_⟩
  · rw [hq0]
    exact HH7.out.lt
  · rw [hq0]
    exact HBE.out
  · rw [hq0]
    exact HT7.out
theorem copied_any (W : World) (h : Hd) (l : Loc) (D : Nat → Prop) (hh : HeldD W D h l) (hD : ∀ q, D q → q < W.heap.size) (hok : h.names.length ≤ 1000 ∧ h.fields.length ≤ 1000 ∧ h.body.length ≤ 1000 ∧ h.bytes.length ≤ 1000000) :
    Calls Try.prog 42 #[.agg (hcs h l).toArray] W (Copied W h) := by
  refine (copied_anyT W h l D hh hD hok).mono ?_
  rintro e W' ⟨l', h1, h2, h3, _⟩
  exact ⟨l', h1, h2, h3⟩
end Go.Proofs.Ytjijdpdbkpknpaa
