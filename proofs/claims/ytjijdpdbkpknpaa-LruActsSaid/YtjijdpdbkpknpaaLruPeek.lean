/-
  The walk of lru's Peek. Condition: the cache lies as its state says.
-/
import Derived.Test.YtjijdpdbkpknpaaLruPut
namespace Go.Proofs.Ytjijdpdbkpknpaa
open Go Go.RowKit

def zh : Hd := ⟨⟨#[]⟩, ⟨#[]⟩, ⟨#[]⟩, ⟨#[]⟩, ⟨#[]⟩, ⟨#[]⟩, 0, 0, 0, 0, 0, 0, 0, [], [], [], []⟩
def zl : Loc := ⟨none, 0, none, 0, none, 0, none, 0⟩
theorem zero_hcs : (hcs zh zl).toArray = heldZero := rfl
theorem zh_held (W : World) (D : Nat → Prop) : HeldD W D zh zl := ⟨⟨rfl, fun h => absurd h (by decide)⟩, ⟨rfl, fun h => absurd h (by decide)⟩, ⟨rfl, fun h => absurd h (by decide)⟩, ⟨rfl, fun h => absurd h (by decide)⟩⟩
theorem built_held : Try.prog.built 40 [] = some heldZero := by kernel_rfl
theorem build_held (W : World) : (Instr.build 40 #[]).run Try.prog W = .ok (.agg (hcs zh zl).toArray) W := by
  rw [zero_hcs]
  exact run_build W _ _ heldZero built_held

theorem wpList_build_zh {ops : Array Oper} {rest : List Oper} {o : Oper} {a : Act} {w : World} {Q : Exit → Act → World → Prop} (hgd : o.guard = none) (ho : o.op = .build 40 #[])
    (h : wpList Try.prog ops Q rest (a.put o.dst (.agg (hcs zh zl).toArray)) w) : wpList Try.prog ops Q (o :: rest) a w :=
  wpList_plain hgd fun _ hK => by
    unfold Oper.wp execOp
    have := build_held w
    simp only [ho, List.map_toArray, List.map_nil, Sem.run_bind, this, Result.andThen_ok]
    exact hK _ _ h

def getK (k : ByteArray) (l : List Hd) : Option Hd := l[atK k l]?
def peekS (S : CS) (k : ByteArray) : Option Hd := if has k S.trial then getK k S.trial else getK k S.rest
theorem getK_no {k : ByteArray} {l : List Hd} (h : has k l = false) : getK k l = none := List.getElem?_eq_none (by have := of_decide_eq_false h; omega)
/-- a response handed out -/
def Given (W : World) (o : Option Hd) (e : Ending) (W' : World) : Prop :=
  ∃ l', e = .returned (.tuple #[.agg (hcs (o.getD zh) l').toArray, .bool o.isSome]) ∧ HeldD W' (fun q => W.heap.size ≤ q ∧ q < W'.heap.size) (o.getD zh) l'

def PeekRel (W : World) (M C : Nat → Prop) (g q0 qs : Nat) (S : CS) (w : World) : Prop :=
  (∃ vt vr Xt Xr, CacheIn w M C g S vt vr Xt Xr) ∧ Blk w q0 40 heldZero ∧ Blk w qs 92 #[.pointer (some ⟨g, 2, none⟩), .pointer (some ⟨g, 4, none⟩)] ∧ Below W.heap.size W w
theorem PeekRel.lift {W w w' : World} {M C : Nat → Prop} {g q0 qs : Nat} {S : CS} (H : PeekRel W M C g q0 qs S w) (hb : Below w.heap.size w w') : PeekRel W M C g q0 qs S w' := by
  obtain ⟨⟨vt, vr, Xt, Xr, h1⟩, h2, h3, h5⟩ := H
  exact ⟨⟨vt, vr, Xt, Xr, h1.lift hb⟩, h2.below hb h2.lt, h3.below hb h3.lt, h5.trans (hb.mono h5.size)⟩

def Nos (S : CS) (k : ByteArray) (j : Nat) : Prop := (0 < j → has k S.trial = false) ∧ (1 < j → has k S.rest = false)
set_option maxRecDepth 100000 in
set_option maxHeartbeats 2000000 in
theorem peek_any {W : World} {M : Nat → Prop} {g : Nat} {S : CS} (k : ByteArray) (HC : CacheAt W M g S) :
    Calls Try.prog 13 #[.pointer (some ⟨g, 0, none⟩), .string k] W fun e W' => Given W (peekS S k) e W' ∧ Below W.heap.size W W' := by
  obtain ⟨C, vt, vr, Xt, Xr, H⟩ := HC
  have HLOW := hide H.low
  have hbud := H.ok.2.2.1
  have hz := fun W' => zero_held W'
  have HB1 : Hid (Below W.heap.size W (W.alloc (.cells heldZero 40)) ∧ (W.alloc (.cells heldZero 40)).heap.size = W.heap.size + 1) := ⟨(Below.refl _ _).alloc (Nat.le_refl _) _, by simp⟩
  have HBB : Hid (Blk (W.alloc (.cells heldZero 40)) W.heap.size 40 heldZero) := Blk.new _ _ _
  obtain ⟨W1, hA1⟩ : ∃ W1, W.alloc (.cells heldZero 40) = W1 := ⟨_, rfl⟩
  rw [hA1] at HB1 HBB
  have HC1 := hide (H.lift HB1.out.1)
  have HSG := hide (segs_any W1 g)
  clear H
  go_enter Try.func13, Try.ntmps13
  go_wp2_with fail
  clear hA1 hz
  refine (unhide HSG).mono ?_
  rintro e W2 ⟨qs, rfl, hqs, hsb, hb2⟩
  have HR0 : Hid (PeekRel W M C g W.heap.size qs S W2) := ⟨⟨vt, vr, Xt, Xr, HC1.out.lift hb2⟩, HBB.out.below hb2 HBB.out.lt, hsb, HB1.out.1.trans (hb2.mono (by have := HB1.out.2; omega))⟩
  have hqs2 : W.heap.size ≤ qs := by have := HB1.out.2; omega
  clear hsb hb2 HC1 HBB HSG HB1
  obtain ⟨q0, hq0⟩ : ∃ q0, q0 = W.heap.size := ⟨_, rfl⟩
  have HQ0 := hide hq0
  rw [← hq0] at HR0
  have hq0le : W.heap.size ≤ q0 := by omega
  rw [← hq0]
  clear hq0
  go_wp2_with fail
  go_loopw [12] (fun i wr => ∃ j : Nat, j ≤ 2 ∧ i = .int .i64 j ∧ PeekRel W M C g q0 qs S wr ∧ Nos S k j) (fun i _ => 2 - (intOf i).toNat)
  case atStart => exact ⟨0, by omega, rfl, HR0.out, fun h => absurd h (by omega), fun h => absurd h (by omega)⟩
  case round =>
    clear HR0
    obtain ⟨j, hj, rfl, hpr, hn1⟩ := hrel
    have HN := hide hn1
    have HPR := hide hpr
    obtain ⟨⟨vt1, vr1, Xt1, Xr1, hc1⟩, hbx, hsg, hbe⟩ := hpr
    have s0 : wr.cell? ⟨qs, 0, none⟩ = some (.pointer (some ⟨g, 2, none⟩)) := hsg.cell 0
    have s1 : wr.cell? ⟨qs, 1, none⟩ = some (.pointer (some ⟨g, 4, none⟩)) := hsg.cell 1
    have HC := hide hc1
    have HBX := hide hbx
    have hsz := hbe.size
    clear hc1 hbx hsg hn1 hbe
    match j, hj with
    | 0, _ =>
      have HFI := hide (find_trial HC.out k)
      have hlen := HC.out.len.1
      cases hhas : has k S.trial with
      | true =>
        rw [idx_yes hhas] at HFI
        obtain ⟨a, hat⟩ : ∃ a, atK k S.trial = a := ⟨_, rfl⟩
        rw [hat] at HFI
        have hlt : a < Xt1.length := by have := of_decide_eq_true hhas; omega
        have HPK : Hid (peekS S k = some Xt1[a].1) := by
          show _ = _
          unfold peekS getK
          rw [if_pos hhas, hat, List.getElem?_eq_getElem (by omega), ← hds_get Xt1 a hlt]
          simp only [HC.out.xt]
        have HMEM := hide (HC.out.ct Xt1[a] (List.getElem_mem hlt))
        have HOK : Hid (Xt1[a].1.ok) := by
          have : Xt1[a].1 ∈ S.trial := by rw [← HC.out.xt]; exact List.mem_map_of_mem (List.getElem_mem hlt)
          exact HC.out.ok.2.2.2 _ (List.mem_append_left _ this)
        obtain ⟨gr, cap, rfl, _, hgr⟩ := HC.out.rt.form (by omega)
        have HL := hide (fun (X : World) (hX : Below wr.heap.size wr X) => load_held X (⟨gr, a * 17, none⟩ : Addr) Xt1[a].1 Xt1[a].2 (fun j u hu => by
          refine (hX.cell (by rw [block_of_add]; exact hgr)).trans ?_
          have := HC.out.rt.cells (g := gr) rfl _ _ (hrow_get Xt1 a hlt j u hu)
          rw [add_flat, Nat.zero_add] at this
          rw [add_flat]
          exact this))
        generalize Xt1[a].1 = h at *
        generalize Xt1[a].2 = l at *
        have i1 : (0 : Int) ≤ (a : Int) := by omega
        have i2 : (a : Int) < (Xt1.length : Int) := by omega
        have HCX := hide (fun (X : World) (hX : Below wr.heap.size wr X) => (HC.out.lift hX).blk.cell 2)
        have HCP := hide (fun (X : World) (hX : Below wr.heap.size wr X) => copied_any X h l C (HMEM.out.keep (Same.of_below hX (fun q hq => HC.out.low q (HC.out.cm q hq).1))) (fun q hq => by have := HC.out.low q (HC.out.cm q hq).1; have := hX.size; omega) ⟨HOK.out.1, HOK.out.2.1, HOK.out.2.2.1, HOK.out.2.2.2.1⟩)
        clear hhas hlen hat
        go_wp2_with fail
        refine (unhide HFI).mono ?_
        rintro e w1 ⟨rfl, hb1⟩
        have HB1 := hide hb1
        have HL1 := hide (HL.out w1 hb1)
        have x2 : w1.cell? ⟨g, 2, none⟩ = some (.slice (some ⟨gr, 0, none⟩) Xt1.length cap) := HCX.out w1 hb1
        have HCP1 := hide (HCP.out w1 hb1)
        have hw1 := hb1.size
        clear hb1 HL HCX HCP HFI
        go_wp2_with (with_reducible refine wpList_load_run rfl 40 (.tmp 26) rfl HL1.out rfl ?_)
        refine (unhide HCP1).mono ?_
        rintro e w2 ⟨l', rfl, hh2, hb2⟩
        have HB2 : Hid (Below wr.heap.size wr w2) := HB1.out.trans (hb2.mono hw1)
        have hzb : Blk w2 q0 40 heldZero := HBX.out.below HB2.out HBX.out.lt
        have hst := cells_held_blk w2 q0 _ _ h l' hzb rfl
        have HB7 : Hid (Blk (w2.setRow q0 (hcs h l').toArray) q0 40 (hcs h l').toArray) := hzb.setRow _
        have hf7 : Fr (fun q => some q0 = some q) w2 (w2.setRow q0 (hcs h l').toArray) := Fr.of_grown (grown_setRow _ _ _)
        have hq0w : q0 < wr.heap.size := HBX.out.lt
        have HH7 : Hid (HeldD (w2.setRow q0 (hcs h l').toArray) (fun q => W.heap.size ≤ q ∧ q < (w2.setRow q0 (hcs h l').toArray).heap.size) h l') := (hh2.weak (D' := fun q => w1.heap.size + 2 ≤ q ∧ q < (w2.setRow q0 (hcs h l').toArray).heap.size) (fun q hq => ⟨hq.1, by have := hf7.size; omega⟩)).fr hf7 (fun q hq e => by injection e with e; omega) |>.weak (fun q hq => ⟨by omega, hq.2⟩)
        have HBE : Hid (Below W.heap.size W (w2.setRow q0 (hcs h l').toArray)) := (HPR.out.2.2.2.trans (HB2.out.mono hsz)).trans (hf7.below (by have := HB2.out.size; omega) (fun q e => by injection e with e; omega))
        clear hzb hf7 hh2 hb2 x2 HCP1
        go_wp2_with fail
        clear hst
        generalize w2.setRow q0 (hcs h l').toArray = W7 at *
        refine bodyPost_ret (results_cell_tmp Try.results13 (load_var_blk W7 _ _ h l' HB7.out) rfl) rfl ⟨?_, HBE.out⟩
        unfold Given
        rw [HPK.out]
        exact ⟨l', rfl, HH7.out⟩
      | false =>
        rw [idx_no hhas] at HFI
        have HHAS : Hid (Nos S k 1) := ⟨fun _ => hhas, fun h => absurd h (by omega)⟩
        clear hhas hlen
        go_wp2_with fail
        refine (unhide HFI).mono ?_
        rintro e w1 ⟨rfl, hb1⟩
        have HP1 := hide (HPR.out.lift hb1)
        clear hb1 HFI
        go_wp2
        go_roundw
        case rel => exact ⟨1, by omega, rfl, HP1.out, HHAS.out⟩
        case measure => simp [intOf]
    | 1, _ =>
      have HFI := hide (find_rest HC.out k)
      have hlen := HC.out.len.2
      cases hhas : has k S.rest with
      | true =>
        rw [idx_yes hhas] at HFI
        obtain ⟨a, hat⟩ : ∃ a, atK k S.rest = a := ⟨_, rfl⟩
        rw [hat] at HFI
        have hlt : a < Xr1.length := by have := of_decide_eq_true hhas; omega
        have HPK : Hid (peekS S k = some Xr1[a].1) := by
          show _ = _
          unfold peekS getK
          rw [if_neg (by rw [HN.out.1 (by omega)]; simp), hat, List.getElem?_eq_getElem (by omega), ← hds_get Xr1 a hlt]
          simp only [HC.out.xr]
        have HMEM := hide (HC.out.cr Xr1[a] (List.getElem_mem hlt))
        have HOK : Hid (Xr1[a].1.ok) := by
          have : Xr1[a].1 ∈ S.rest := by rw [← HC.out.xr]; exact List.mem_map_of_mem (List.getElem_mem hlt)
          exact HC.out.ok.2.2.2 _ (List.mem_append_right _ this)
        obtain ⟨gr, cap, rfl, _, hgr⟩ := HC.out.rr.form (by omega)
        have HL := hide (fun (X : World) (hX : Below wr.heap.size wr X) => load_held X (⟨gr, a * 17, none⟩ : Addr) Xr1[a].1 Xr1[a].2 (fun j u hu => by
          refine (hX.cell (by rw [block_of_add]; exact hgr)).trans ?_
          have := HC.out.rr.cells (g := gr) rfl _ _ (hrow_get Xr1 a hlt j u hu)
          rw [add_flat, Nat.zero_add] at this
          rw [add_flat]
          exact this))
        generalize Xr1[a].1 = h at *
        generalize Xr1[a].2 = l at *
        have i1 : (0 : Int) ≤ (a : Int) := by omega
        have i2 : (a : Int) < (Xr1.length : Int) := by omega
        have HCX := hide (fun (X : World) (hX : Below wr.heap.size wr X) => (HC.out.lift hX).blk.cell 4)
        have HCP := hide (fun (X : World) (hX : Below wr.heap.size wr X) => copied_any X h l C (HMEM.out.keep (Same.of_below hX (fun q hq => HC.out.low q (HC.out.cm q hq).1))) (fun q hq => by have := HC.out.low q (HC.out.cm q hq).1; have := hX.size; omega) ⟨HOK.out.1, HOK.out.2.1, HOK.out.2.2.1, HOK.out.2.2.2.1⟩)
        clear hhas hlen hat
        go_wp2_with fail
        refine (unhide HFI).mono ?_
        rintro e w1 ⟨rfl, hb1⟩
        have HB1 := hide hb1
        have HL1 := hide (HL.out w1 hb1)
        have x2 : w1.cell? ⟨g, 4, none⟩ = some (.slice (some ⟨gr, 0, none⟩) Xr1.length cap) := HCX.out w1 hb1
        have HCP1 := hide (HCP.out w1 hb1)
        have hw1 := hb1.size
        clear hb1 HL HCX HCP HFI
        go_wp2_with (with_reducible refine wpList_load_run rfl 40 (.tmp 26) rfl HL1.out rfl ?_)
        refine (unhide HCP1).mono ?_
        rintro e w2 ⟨l', rfl, hh2, hb2⟩
        have HB2 : Hid (Below wr.heap.size wr w2) := HB1.out.trans (hb2.mono hw1)
        have hzb : Blk w2 q0 40 heldZero := HBX.out.below HB2.out HBX.out.lt
        have hst := cells_held_blk w2 q0 _ _ h l' hzb rfl
        have HB7 : Hid (Blk (w2.setRow q0 (hcs h l').toArray) q0 40 (hcs h l').toArray) := hzb.setRow _
        have hf7 : Fr (fun q => some q0 = some q) w2 (w2.setRow q0 (hcs h l').toArray) := Fr.of_grown (grown_setRow _ _ _)
        have hq0w : q0 < wr.heap.size := HBX.out.lt
        have HH7 : Hid (HeldD (w2.setRow q0 (hcs h l').toArray) (fun q => W.heap.size ≤ q ∧ q < (w2.setRow q0 (hcs h l').toArray).heap.size) h l') := (hh2.weak (D' := fun q => w1.heap.size + 2 ≤ q ∧ q < (w2.setRow q0 (hcs h l').toArray).heap.size) (fun q hq => ⟨hq.1, by have := hf7.size; omega⟩)).fr hf7 (fun q hq e => by injection e with e; omega) |>.weak (fun q hq => ⟨by omega, hq.2⟩)
        have HBE : Hid (Below W.heap.size W (w2.setRow q0 (hcs h l').toArray)) := (HPR.out.2.2.2.trans (HB2.out.mono hsz)).trans (hf7.below (by have := HB2.out.size; omega) (fun q e => by injection e with e; omega))
        clear hzb hf7 hh2 hb2 x2 HCP1
        go_wp2_with fail
        clear hst
        generalize w2.setRow q0 (hcs h l').toArray = W7 at *
        refine bodyPost_ret (results_cell_tmp Try.results13 (load_var_blk W7 _ _ h l' HB7.out) rfl) rfl ⟨?_, HBE.out⟩
        unfold Given
        rw [HPK.out]
        exact ⟨l', rfl, HH7.out⟩
      | false =>
        rw [idx_no hhas] at HFI
        have HHAS : Hid (Nos S k 2) := ⟨fun _ => HN.out.1 (by omega), fun _ => hhas⟩
        clear hhas hlen
        go_wp2_with fail
        refine (unhide HFI).mono ?_
        rintro e w1 ⟨rfl, hb1⟩
        have HP1 := hide (HPR.out.lift hb1)
        clear hb1 HFI
        go_wp2
        go_roundw
        case rel => exact ⟨2, by omega, rfl, HP1.out, HHAS.out⟩
        case measure => simp [intOf]
    | 2, _ =>
      have HPK : Hid (peekS S k = none) := by
        show _ = _
        unfold peekS
        rw [if_neg (by rw [HN.out.1 (by omega)]; simp), getK_no (HN.out.2 (by omega))]
      have hst := cells_held_blk wr q0 _ _ zh zl HBX.out rfl
      have HB7 : Hid (Blk (wr.setRow q0 (hcs zh zl).toArray) q0 40 (hcs zh zl).toArray) := HBX.out.setRow _
      have hf7 : Fr (fun q => some q0 = some q) wr (wr.setRow q0 (hcs zh zl).toArray) := Fr.of_grown (grown_setRow _ _ _)
      have HBE : Hid (Below W.heap.size W (wr.setRow q0 (hcs zh zl).toArray)) := HPR.out.2.2.2.trans (hf7.below (by omega) (fun q e => by injection e with e; omega))
      clear hf7 s0 s1
      go_wp2_with (with_reducible refine wpList_build_zh rfl rfl ?_)
      clear hst
      generalize wr.setRow q0 (hcs zh zl).toArray = W7 at *
      refine bodyPost_ret (results_cell_tmp Try.results13 (load_var_blk W7 _ _ zh zl HB7.out) rfl) rfl ⟨?_, HBE.out⟩
      unfold Given
      rw [HPK.out]
      exact ⟨zl, rfl, zh_held _ _⟩
end Go.Proofs.Ytjijdpdbkpknpaa
