/-
  The walk of icehouseref21.Same where both sides say the same. Condition: both read as the same data.
-/
import Derived.Test.YtjijdpdbkpknpaaLruSame
namespace Go.Proofs.Ytjijdpdbkpknpaa
open Go Go.RowKit

theorem info_entry : (Try.prog.info? 38).map (·.size) = some 15 := by kernel_rfl
theorem entry_desc : ∃ fs, Try.prog.underlying 38 = some (.struct fs) := ⟨_, Try.underlying38⟩
theorem load_entry (W : World) (g : Nat) (t : TypeId) (h : Hd) (l : Loc) (hb : Blk W g t (hcs h l).toArray) : (Instr.loadAt 38 (.pointer (some ⟨g, 1, none⟩))).run Try.prog W = .ok (.agg (ecs h l).toArray) W := by
  obtain ⟨fs, he⟩ := entry_desc
  refine run_loadAt_ad W _ _ (ecs h l) _ (fun j v hv => ?_) he rfl (by rw [info_entry]; rfl)
  rw [add_flat, hb.cell, List.getElem?_toArray]
  have hj : j < 15 := (List.getElem?_eq_some_iff.1 hv).1
  have e : (hcs h l)[1 + j]? = (ecs h l)[j]? := by
    match j, hj with
    | 0, _ => rfl | 1, _ => rfl | 2, _ => rfl | 3, _ => rfl | 4, _ => rfl | 5, _ => rfl | 6, _ => rfl | 7, _ => rfl
    | 8, _ => rfl | 9, _ => rfl | 10, _ => rfl | 11, _ => rfl | 12, _ => rfl | 13, _ => rfl | 14, _ => rfl
  rw [e]
  exact hv

set_option maxRecDepth 100000 in
set_option maxHeartbeats 2000000 in
theorem same_held (h : Hd) (l m : Loc) (B : Nat) (D E : Nat → Prop) (w : World) (hB : B ≤ w.heap.size) (hok : h.names.length ≤ 1000 ∧ h.fields.length ≤ 1000 ∧ h.body.length ≤ 1000) (h1 : HeldD w D h l) (h2 : HeldD w E h m) (hD : ∀ q, D q → q < B) (hE : ∀ q, E q → q < B) :
    Calls Try.prog 24 #[.agg (hcs h l).toArray, .agg (hcs h m).toArray] w fun e w' => e = .returned (.bool true) ∧ Below w.heap.size w w' := by
  have HA1 : Hid (Blk (w.alloc (.cells (hcs h l).toArray 40)) w.heap.size 40 (hcs h l).toArray) := Blk.new _ _ _
  have HW1 : Hid (Below w.heap.size w (w.alloc (.cells (hcs h l).toArray 40)) ∧ (w.alloc (.cells (hcs h l).toArray 40)).heap.size = w.heap.size + 1) := ⟨(Below.refl _ _).alloc (Nat.le_refl _) _, by simp⟩
  obtain ⟨W1, hA1⟩ : ∃ W1, w.alloc (.cells (hcs h l).toArray 40) = W1 := ⟨_, rfl⟩
  rw [hA1] at HA1 HW1
  have HA2 : Hid (Blk (W1.alloc (.cells (hcs h m).toArray 40)) W1.heap.size 40 (hcs h m).toArray) := Blk.new _ _ _
  have HW2 : Hid (Below W1.heap.size W1 (W1.alloc (.cells (hcs h m).toArray 40))) := (Below.refl _ _).alloc (Nat.le_refl _) _
  obtain ⟨W2, hA2⟩ : ∃ W2, W1.alloc (.cells (hcs h m).toArray 40) = W2 := ⟨_, rfl⟩
  rw [hA2] at HA2 HW2
  have hs1 := HW1.out.1.size
  have HW := hide (HW1.out.1.trans (HW2.out.mono hs1))
  have hszw := HW.out.size
  have HB1 := hide (HA1.out.below HW2.out HA1.out.lt)
  have x0 : W2.cell? ⟨w.heap.size, 0, none⟩ = some (.string h.key) := HB1.out.cell 0
  have y0 : W2.cell? ⟨W1.heap.size, 0, none⟩ = some (.string h.key) := HA2.out.cell 0
  have HL1 := hide (load_entry W2 _ _ h l HB1.out)
  have HL2 := hide (load_entry W2 _ _ h m HA2.out)
  have hb := HW.out.mono hB
  have HSE := hide (same_entry h l m B W2 (by omega) hok ((h1.names.reads hD).below hb) ((h2.names.reads hE).below hb) ((h1.fields.reads hD).below hb) ((h2.fields.reads hE).below hb) ((h1.body.reads hD).below hb) ((h2.body.reads hE).below hb))
  have HY1 : Hid (BytesAt W2 B l.ay h.bytes) := (h1.bytes.reads hD).below hb
  have HY2 : Hid (BytesAt W2 B m.ay h.bytes) := (h2.bytes.reads hE).below hb
  clear h1 h2 hb hok hs1
  go_enter Try.func24, Try.ntmps24
  go_wp2_with (first | (refine wpList_load_runW (by first | rfl | (simp [Region.wanted, yielded]; done)) 38 (.tmp 11) rfl HL1.out rfl ?_) | (refine wpList_load_runW (by first | rfl | (simp [Region.wanted, yielded]; done)) 38 (.tmp 13) rfl HL2.out rfl ?_))
  clear hA1 hA2 x0 y0 HL1 HL2
  refine (unhide HSE).mono ?_
  rintro e W3 ⟨rfl, hb3⟩
  have HE3 := hide (HW.out.trans (hb3.mono hszw))
  have x16 : W3.cell? ⟨w.heap.size, 16, none⟩ = some (.slice l.ay h.bytes.length l.cy) := (hb3.cell (p := ⟨w.heap.size, 16, none⟩) HB1.out.lt).trans (HB1.out.cell 16)
  have y16 : W3.cell? ⟨W1.heap.size, 16, none⟩ = some (.slice m.ay h.bytes.length m.cy) := (hb3.cell (p := ⟨W1.heap.size, 16, none⟩) HA2.out.lt).trans (HA2.out.cell 16)
  have s1 := conv_str h.bytes.length l.cy rfl (BytesAt.lift HY1.out (hb3.mono (by omega)) (Nat.le_refl _))
  have s2 := conv_str h.bytes.length m.cy rfl (BytesAt.lift HY2.out (hb3.mono (by omega)) (Nat.le_refl _))
  have sx : ((strOf h.bytes).toList == (strOf h.bytes).toList) = true := by simp
  clear hb3 HSE HY1 HY2
  go_wp2
  go_ret
  exact ⟨rfl, HE3.out⟩
end Go.Proofs.Ytjijdpdbkpknpaa
