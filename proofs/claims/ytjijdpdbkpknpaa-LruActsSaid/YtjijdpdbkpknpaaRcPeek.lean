/-
  The walk of the document's Peek. Condition: the cache lies as its state says.
-/
import Derived.Test.YtjijdpdbkpknpaaRcUsed
namespace Go.Proofs.Ytjijdpdbkpknpaa
open Go Go.RowKit

/-- a response handed out that lies below B -/
def RGiven (B : Nat) (o : Option Hd) (e : Ending) (W' : World) : Prop :=
  ∃ l', e = .returned (.tuple #[.agg (hcs (o.getD zh) l').toArray, .bool o.isSome]) ∧ HeldD W' (fun q => q < B) (o.getD zh) l'
theorem own_at {W : World} {v : Value} {X : List (Hd × Loc)} (h : W.ownsRow 0 40 17 v X.length (hrow X)) (i : Nat) (hi : i < X.length) :
    ∃ gr c, v = .slice (some ⟨gr, 0, none⟩) X.length c ∧ ∀ x, Below W.heap.size W x → (Instr.loadAt 40 (.pointer (some (⟨gr, i * 17, none⟩ : Addr)))).run Try.prog x = .ok (.agg (hcs X[i].1 X[i].2).toArray) x := by
  obtain ⟨gr, c, e, _, hlt⟩ := h.form (by omega)
  subst e
  refine ⟨gr, c, rfl, fun x hx => load_held x (⟨gr, i * 17, none⟩ : Addr) X[i].1 X[i].2 (fun j u hu => ?_)⟩
  have := h.cells (g := gr) rfl _ _ (hrow_get X i hi j u hu)
  rw [add_flat, Nat.zero_add] at this
  rw [add_flat]
  exact (hx.cell (p := ⟨gr, i * 17 + j, none⟩) hlt).trans this

theorem getK_row {k : ByteArray} {X : List (Hd × Loc)} {t : List Hd} (e : hds X = t) (hi : atK k t < X.length) : getK k t = some X[atK k t].1 := by
  subst e
  unfold getK
  rw [List.getElem?_eq_getElem (by rw [hds_len]; exact hi)]
  congr 1
  exact hds_get X _ hi

set_option maxRecDepth 100000 in
set_option maxHeartbeats 1000000 in
theorem rpeek_any {W : World} {M : Nat → Prop} {B g : Nat} {S : CS} (H : RefAt W M B g S) (k : ByteArray) :
    Calls Try.prog 25 #[.pointer (some ⟨g, 0, none⟩), .string k] W fun e W' => RGiven B (peekS S k) e W' ∧ Below W.heap.size W W' := by
  obtain ⟨vt, vr, Xt, Xr, h⟩ := H
  have hz := fun W' => zero_held W'
  have HW1 : Hid (Below W.heap.size W (W.alloc (.cells heldZero 40)) ∧ (W.alloc (.cells heldZero 40)).heap.size = W.heap.size + 1) := ⟨(Below.refl _ _).alloc (Nat.le_refl _) _, by simp⟩
  have HZB : Hid (Blk (W.alloc (.cells heldZero 40)) W.heap.size 40 heldZero) := Blk.new _ _ _
  obtain ⟨W1, hA1⟩ : ∃ W1, W.alloc (.cells heldZero 40) = W1 := ⟨_, rfl⟩
  rw [hA1] at HW1 HZB
  have h1 := h.lift HW1.out.1
  have hBd := h.bound
  have b2 : W1.cell? ⟨g, 2, none⟩ = some vt := h1.blk.cell 2
  have HA2 := hide (h1.at2 k)
  have HK : Hid (∀ x, Below W1.heap.size W1 x → x.cell? ⟨g, 2, none⟩ = some vt ∧ x.cell? ⟨g, 3, none⟩ = some vr ∧ Calls Try.prog 45 #[vr, .string k] x fun e W' => e = .returned (.int .i64 (idxI k S.rest)) ∧ Below x.heap.size x W') := fun x hx => ⟨(h1.lift hx).blk.cell 2, (h1.lift hx).blk.cell 3, (h1.lift hx).at3 k⟩
  have HLT := hide h.len
  have hl2 := h.ok.2.2.1
  have HX := hide h1
  clear h h1
  cases hT : has k S.trial with
  | true =>
    rw [idx_yes hT] at HA2
    have hi : atK k S.trial < S.trial.length := of_decide_eq_true hT
    obtain ⟨gr, c, rfl, HL⟩ := own_at HX.out.rt (atK k S.trial) (by have := HLT.out; omega)
    have HP : Hid (peekS S k = some (Xt[atK k S.trial]'(by have := HLT.out; omega)).1) := by
      show _ = _
      unfold peekS
      rw [if_pos hT]
      exact getK_row HX.out.xt (by have := HLT.out; omega)
    have HHD : Hid (∀ x, Below W1.heap.size W1 x → HeldD x (fun q => q < B) (Xt[atK k S.trial]'(by have := HLT.out; omega)).1 (Xt[atK k S.trial]'(by have := HLT.out; omega)).2) := fun x hx => (HX.out.lift hx).ct _ (List.getElem_mem _)
    have HLL := hide HL
    have hix : atK k S.trial < Xt.length := by have := HLT.out; omega
    clear HL hT HX
    generalize (Xt[atK k S.trial]'hix).1 = y at *
    generalize (Xt[atK k S.trial]'hix).2 = l at *
    generalize atK k S.trial = i at *
    have i1 : (0 : Int) ≤ (i : Int) := by omega
    have i2 : (i : Int) < (Xt.length : Int) := by omega
    go_enter Try.func25, Try.ntmps25
    go_wp2_with fail
    refine (unhide HA2).mono ?_
    rintro e W2 ⟨rfl, hb2⟩
    obtain ⟨c2, c3, _⟩ := HK.out W2 hb2
    have HL2 := hide (HLL.out W2 hb2)
    have hz2 : Blk W2 W.heap.size 40 heldZero := HZB.out.below hb2 HZB.out.lt
    have hst := cells_held_blk W2 W.heap.size _ _ y l hz2 rfl
    have HB7 : Hid (Blk (W2.setRow W.heap.size (hcs y l).toArray) W.heap.size 40 (hcs y l).toArray) := hz2.setRow _
    have hf7 : Fr (fun q => some W.heap.size = some q) W2 (W2.setRow W.heap.size (hcs y l).toArray) := Fr.of_grown (grown_setRow _ _ _)
    have HH7 : Hid (HeldD (W2.setRow W.heap.size (hcs y l).toArray) (fun q => q < B) y l) := (HHD.out W2 hb2).fr hf7 (fun q hq e => by injection e with e; omega)
    have HBF : Hid (Below W.heap.size W (W2.setRow W.heap.size (hcs y l).toArray)) := (HW1.out.1.trans (hb2.mono (by have := HW1.out.2; omega))).trans (hf7.below (by have := hb2.size; have := HW1.out.2; omega) (fun q e => by injection e with e; omega))
    clear hf7 hz2 hb2 HA2 b2 hA1 hz
    go_wp2_with (with_reducible refine wpList_load_run rfl 40 (.tmp 20) rfl HL2.out rfl ?_)
    clear hst
    generalize W2.setRow W.heap.size (hcs y l).toArray = W7 at *
    refine bodyPost_ret (results_cell_tmp Try.results25 (load_var_blk W7 _ _ y l HB7.out) rfl) rfl ?_
    unfold RGiven
    rw [HP.out]
    exact ⟨⟨l, rfl, HH7.out⟩, HBF.out⟩
  | false =>
    rw [idx_no hT] at HA2
    cases hR : has k S.rest with
    | true =>
      have hi : atK k S.rest < S.rest.length := of_decide_eq_true hR
      obtain ⟨gr, c, rfl, HL⟩ := own_at HX.out.rr (atK k S.rest) (by have := HLT.out; omega)
      have HP : Hid (peekS S k = some (Xr[atK k S.rest]'(by have := HLT.out; omega)).1) := by
        show _ = _
        unfold peekS
        rw [if_neg (by rw [hT]; simp)]
        exact getK_row HX.out.xr (by have := HLT.out; omega)
      have HHD : Hid (∀ x, Below W1.heap.size W1 x → HeldD x (fun q => q < B) (Xr[atK k S.rest]'(by have := HLT.out; omega)).1 (Xr[atK k S.rest]'(by have := HLT.out; omega)).2) := fun x hx => (HX.out.lift hx).cr _ (List.getElem_mem _)
      have HLL := hide HL
      have hix : atK k S.rest < Xr.length := by have := HLT.out; omega
      rw [idx_yes hR] at HK
      clear HL hT hR HX
      generalize (Xr[atK k S.rest]'hix).1 = y at *
      generalize (Xr[atK k S.rest]'hix).2 = l at *
      generalize atK k S.rest = i at *
      have i1 : (0 : Int) ≤ (i : Int) := by omega
      have i2 : (i : Int) < (Xr.length : Int) := by omega
      go_enter Try.func25, Try.ntmps25
      go_wp2_with fail
      refine (unhide HA2).mono ?_
      rintro e W2 ⟨rfl, hb2⟩
      obtain ⟨c2, c3, HA3⟩ := HK.out W2 hb2
      have HA3 := hide HA3
      have HB2 := hide hb2
      clear hb2 HA2 b2 hA1
      go_wp2_with fail
      refine (unhide HA3).mono ?_
      rintro e W3 ⟨rfl, hb3'⟩
      have hb3 : Below W1.heap.size W1 W3 := HB2.out.trans (hb3'.mono HB2.out.size)
      clear hb3' c2 c3
      obtain ⟨c2, c3, _⟩ := HK.out W3 hb3
      have HL2 := hide (HLL.out W3 hb3)
      have hz2 : Blk W3 W.heap.size 40 heldZero := HZB.out.below hb3 HZB.out.lt
      have hst := cells_held_blk W3 W.heap.size _ _ y l hz2 rfl
      have HB7 : Hid (Blk (W3.setRow W.heap.size (hcs y l).toArray) W.heap.size 40 (hcs y l).toArray) := hz2.setRow _
      have hf7 : Fr (fun q => some W.heap.size = some q) W3 (W3.setRow W.heap.size (hcs y l).toArray) := Fr.of_grown (grown_setRow _ _ _)
      have HH7 : Hid (HeldD (W3.setRow W.heap.size (hcs y l).toArray) (fun q => q < B) y l) := (HHD.out W3 hb3).fr hf7 (fun q hq e => by injection e with e; omega)
      have HBF : Hid (Below W.heap.size W (W3.setRow W.heap.size (hcs y l).toArray)) := (HW1.out.1.trans (hb3.mono (by have := HW1.out.2; omega))).trans (hf7.below (by have := hb3.size; have := HW1.out.2; omega) (fun q e => by injection e with e; omega))
      clear hf7 hz2 hb3 HA3 hz
      go_wp2_with (with_reducible refine wpList_load_run rfl 40 (.tmp 35) rfl HL2.out rfl ?_)
      clear hst
      generalize W3.setRow W.heap.size (hcs y l).toArray = W7 at *
      refine bodyPost_ret (results_cell_tmp Try.results25 (load_var_blk W7 _ _ y l HB7.out) rfl) rfl ?_
      unfold RGiven
      rw [HP.out]
      exact ⟨⟨l, rfl, HH7.out⟩, HBF.out⟩
    | false =>
      have HP : Hid (peekS S k = none) := by
        show _ = _
        unfold peekS
        rw [if_neg (by rw [hT]; simp), getK_no hR]
      rw [idx_no hR] at HK
      clear hT hR HX HLT
      go_enter Try.func25, Try.ntmps25
      go_wp2_with fail
      refine (unhide HA2).mono ?_
      rintro e W2 ⟨rfl, hb2⟩
      obtain ⟨c2, c3, HA3⟩ := HK.out W2 hb2
      have HA3 := hide HA3
      have HB2 := hide hb2
      clear hb2 HA2 b2 hA1
      go_wp2_with fail
      refine (unhide HA3).mono ?_
      rintro e W3 ⟨rfl, hb3'⟩
      have hb3 : Below W1.heap.size W1 W3 := HB2.out.trans (hb3'.mono HB2.out.size)
      clear hb3' c2 c3
      have hz2 : Blk W3 W.heap.size 40 heldZero := HZB.out.below hb3 HZB.out.lt
      have hst := cells_held_blk W3 W.heap.size _ _ zh zl hz2 rfl
      have HB7 : Hid (Blk (W3.setRow W.heap.size (hcs zh zl).toArray) W.heap.size 40 (hcs zh zl).toArray) := hz2.setRow _
      have hf7 : Fr (fun q => some W.heap.size = some q) W3 (W3.setRow W.heap.size (hcs zh zl).toArray) := Fr.of_grown (grown_setRow _ _ _)
      have HBF : Hid (Below W.heap.size W (W3.setRow W.heap.size (hcs zh zl).toArray)) := (HW1.out.1.trans (hb3.mono (by have := HW1.out.2; omega))).trans (hf7.below (by have := hb3.size; have := HW1.out.2; omega) (fun q e => by injection e with e; omega))
      clear hf7 hz2 hb3 HA3
      go_wp2_with (with_reducible refine wpList_build_zh rfl rfl ?_)
      clear hst
      generalize W3.setRow W.heap.size (hcs zh zl).toArray = W7 at *
      refine bodyPost_ret (results_cell_tmp Try.results25 (load_var_blk W7 _ _ zh zl HB7.out) rfl) rfl ?_
      unfold RGiven
      rw [HP.out]
      exact ⟨⟨zl, rfl, zh_held _ _⟩, HBF.out⟩
end Go.Proofs.Ytjijdpdbkpknpaa
