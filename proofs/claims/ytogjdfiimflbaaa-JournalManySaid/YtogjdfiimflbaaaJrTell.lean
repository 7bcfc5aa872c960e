/-
  The walk of journal's tell. Conditions: the journal lies so, on a device that no call fails.
-/
import Derived.Test.YtogjdfiimflbaaaJrHome
namespace Go.Proofs.Ytogjdfiimflbaaa
open Go Go.RowKit

theorem load_mark (W : World) (g o : Nat) (a b c : Int) (h0 : W.cell? ⟨g, o, none⟩ = some (.int .i64 a)) (h1 : W.cell? ⟨g, o + 1, none⟩ = some (.int .i64 b)) (h2 : W.cell? ⟨g, o + 2, none⟩ = some (.int .i64 c)) : (Instr.loadAt 61 (.pointer (some ⟨g, o, none⟩))).run Try.prog W = .ok (.agg (markI a b c)) W := by
  obtain ⟨fs, he⟩ := mark_desc
  exact run_loadAt_ad W ⟨g, o, none⟩ _ [.int .i64 a, .int .i64 b, .int .i64 c] _ (fun j v hv => by
    rw [add_flat]
    match j, hv with
    | 0, hv => exact h0.trans hv
    | 1, hv => exact h1.trans hv
    | 2, hv => exact h2.trans hv
    | j + 3, hv => simp at hv) he rfl (by rw [mark_info]; rfl)
section
variable {W : World} {B T j g c m : Nat} {J : JS} {N : List (List UInt8)}
set_option maxRecDepth 100000 in
set_option maxHeartbeats 4000000 in
theorem tell_any (h : JAt W B T j g J) (hD : DevC W B g c N m) (hB : B ≤ W.heap.size) (hc : c < 1048576) (hq : m + 1 ≤ 1048576) (h2 : 2 ≤ N.length) (hm : J.m + 1 < 65536) (hn : J.next < 65536) (hp : J.pos < 65536) :
    Calls Try.prog 25 #[.pointer (some ⟨j, 0, none⟩)] W fun e W' => e = .returned (.int .i64 0) ∧ DevC W' B g (c + 1) (wsec N ((J.m + 1) % 2) [markL (J.m + 1) J.next J.pos]) (m + 1) ∧ DKeep B W W' := by
  obtain ⟨A, co, hpa, hjb⟩ := h.cells
  have HJB := hide hjb
  have HD := hide hD
  clear h hD hpa hjb
  have HSX : Hid (∀ x, Below W.heap.size W x → x.cell? ⟨j, 3, none⟩ = some (.int .i64 (J.m : Int)) ∧ x.cell? ⟨j, 6, none⟩ = some (.int .i64 (J.next : Int)) ∧ x.cell? ⟨j, 7, none⟩ = some (.int .i64 (J.pos : Int))) := fun x hx => by
    have hj := HJB.out.below hx HJB.out.lt
    exact ⟨hj.cell 3, hj.cell 6, hj.cell 7⟩
  have HWR : Hid (IntKind.i64.wrap ((J.m : Int) + 1) = (J.m : Int) + 1) := (by rw [IntKind.wrap_i64]; omega : IntKind.i64.wrap ((J.m : Int) + 1) = (J.m : Int) + 1)
  have HAN : Hid (bits .and .i64 ((J.m : Int) + 1) 1 = (((J.m + 1) % 2 : Nat) : Int)) := (by rw [← and_one (J.m + 1) hm]; rfl : bits .and .i64 ((J.m : Int) + 1) 1 = (((J.m + 1) % 2 : Nat) : Int))
  go_enter Try.func25, Try.ntmps25
  go_wp2_with fail
  refine region_U (fun x => x.cell? ⟨j, 3, none⟩ = some (.int .i64 (J.m : Int)) ∧ x.cell? ⟨j, 6, none⟩ = some (.int .i64 (J.next : Int)) ∧ x.cell? ⟨j, 7, none⟩ = some (.int .i64 (J.pos : Int))) 16 (by kernel_rfl) ?_
  intro Y hY
  have HBY : Hid (Below W.heap.size W Y) := by rw [hY]; exact (Below.refl _ _).drew
  have HSY := hide (HSX.out Y HBY.out)
  clear hY
  refine takeV 17 0 (.pointer (some ⟨j, 0, none⟩)) rfl (by kernel_rfl) (fun _ _ _ h => h) (by rfl) (fun x hS => by
    obtain ⟨s1, s2, s3⟩ := hS
    go_simp) HSY.out ?_
  simp only [Act.put, List.getElem_toArray, List.getElem_cons_succ, List.getElem_cons_zero, List.setIfInBounds_toArray, List.set_cons_zero, List.set_cons_succ]
  refine takeV 17 1 (.pointer (some ⟨j, 0, none⟩)) rfl (by kernel_rfl) (fun _ _ _ h => h) (by rfl) (fun x hS => by
    obtain ⟨s1, s2, s3⟩ := hS
    go_simp) HSY.out ?_
  simp only [Act.put, List.getElem_toArray, List.getElem_cons_succ, List.getElem_cons_zero, List.setIfInBounds_toArray, List.set_cons_zero, List.set_cons_succ]
  refine takeV 17 2 (.pointer (some ⟨j, 3, none⟩)) rfl (by kernel_rfl) (fun _ _ _ h => h) (by rfl) (fun x hS => by
    obtain ⟨s1, s2, s3⟩ := hS
    go_simp) HSY.out ?_
  simp only [Act.put, List.getElem_toArray, List.getElem_cons_succ, List.getElem_cons_zero, List.setIfInBounds_toArray, List.set_cons_zero, List.set_cons_succ]
  refine takeV 17 3 (.pointer (some ⟨j, 3, none⟩)) rfl (by kernel_rfl) (fun _ _ _ h => h) (by rfl) (fun x hS => by
    obtain ⟨s1, s2, s3⟩ := hS
    go_simp) HSY.out ?_
  simp only [Act.put, List.getElem_toArray, List.getElem_cons_succ, List.getElem_cons_zero, List.setIfInBounds_toArray, List.set_cons_zero, List.set_cons_succ]
  refine takeV 17 4 (.int .i64 (J.m : Int)) rfl (by kernel_rfl) (fun _ _ _ h => h) (by rfl) (fun x hS => by
    obtain ⟨s1, s2, s3⟩ := hS
    go_simp) HSY.out ?_
  simp only [Act.put, List.getElem_toArray, List.getElem_cons_succ, List.getElem_cons_zero, List.setIfInBounds_toArray, List.set_cons_zero, List.set_cons_succ]
  refine takeV 17 5 (.int .i64 ((J.m : Int) + 1)) rfl (by kernel_rfl) (fun _ _ _ h => h) (by rfl) (fun x hS => by
    have hw := HWR.out
    go_simp) HSY.out ?_
  simp only [Act.put, List.getElem_toArray, List.getElem_cons_succ, List.getElem_cons_zero, List.setIfInBounds_toArray, List.set_cons_zero, List.set_cons_succ]
  refine takeV 17 6 (.pointer (some ⟨j, 0, none⟩)) rfl (by kernel_rfl) (fun _ _ _ h => h) (by rfl) (fun x hS => by
    obtain ⟨s1, s2, s3⟩ := hS
    go_simp) HSY.out ?_
  simp only [Act.put, List.getElem_toArray, List.getElem_cons_succ, List.getElem_cons_zero, List.setIfInBounds_toArray, List.set_cons_zero, List.set_cons_succ]
  refine takeV 17 7 (.pointer (some ⟨j, 0, none⟩)) rfl (by kernel_rfl) (fun _ _ _ h => h) (by rfl) (fun x hS => by
    obtain ⟨s1, s2, s3⟩ := hS
    go_simp) HSY.out ?_
  simp only [Act.put, List.getElem_toArray, List.getElem_cons_succ, List.getElem_cons_zero, List.setIfInBounds_toArray, List.set_cons_zero, List.set_cons_succ]
  refine takeV 17 8 (.pointer (some ⟨j, 6, none⟩)) rfl (by kernel_rfl) (fun _ _ _ h => h) (by rfl) (fun x hS => by
    obtain ⟨s1, s2, s3⟩ := hS
    go_simp) HSY.out ?_
  simp only [Act.put, List.getElem_toArray, List.getElem_cons_succ, List.getElem_cons_zero, List.setIfInBounds_toArray, List.set_cons_zero, List.set_cons_succ]
  refine takeV 17 9 (.int .i64 (J.next : Int)) rfl (by kernel_rfl) (fun _ _ _ h => h) (by rfl) (fun x hS => by
    obtain ⟨s1, s2, s3⟩ := hS
    go_simp) HSY.out ?_
  simp only [Act.put, List.getElem_toArray, List.getElem_cons_succ, List.getElem_cons_zero, List.setIfInBounds_toArray, List.set_cons_zero, List.set_cons_succ]
  refine takeV 17 10 (.pointer (some ⟨j, 0, none⟩)) rfl (by kernel_rfl) (fun _ _ _ h => h) (by rfl) (fun x hS => by
    obtain ⟨s1, s2, s3⟩ := hS
    go_simp) HSY.out ?_
  simp only [Act.put, List.getElem_toArray, List.getElem_cons_succ, List.getElem_cons_zero, List.setIfInBounds_toArray, List.set_cons_zero, List.set_cons_succ]
  refine takeV 17 11 (.pointer (some ⟨j, 0, none⟩)) rfl (by kernel_rfl) (fun _ _ _ h => h) (by rfl) (fun x hS => by
    obtain ⟨s1, s2, s3⟩ := hS
    go_simp) HSY.out ?_
  simp only [Act.put, List.getElem_toArray, List.getElem_cons_succ, List.getElem_cons_zero, List.setIfInBounds_toArray, List.set_cons_zero, List.set_cons_succ]
  refine takeV 17 12 (.pointer (some ⟨j, 7, none⟩)) rfl (by kernel_rfl) (fun _ _ _ h => h) (by rfl) (fun x hS => by
    obtain ⟨s1, s2, s3⟩ := hS
    go_simp) HSY.out ?_
  simp only [Act.put, List.getElem_toArray, List.getElem_cons_succ, List.getElem_cons_zero, List.setIfInBounds_toArray, List.set_cons_zero, List.set_cons_succ]
  refine takeV 17 13 (.int .i64 (J.pos : Int)) rfl (by kernel_rfl) (fun _ _ _ h => h) (by rfl) (fun x hS => by
    obtain ⟨s1, s2, s3⟩ := hS
    go_simp) HSY.out ?_
  simp only [Act.put, List.getElem_toArray, List.getElem_cons_succ, List.getElem_cons_zero, List.setIfInBounds_toArray, List.set_cons_zero, List.set_cons_succ]
  refine takeV 17 14 (.agg (markI ((J.m : Int) + 1) (J.next : Int) (J.pos : Int))) rfl (by kernel_rfl) (fun _ _ _ h => h) (by rfl) (fun x hS => by
    have hbu := build_mark x ((J.m : Int) + 1) (J.next : Int) (J.pos : Int)
    go_simp
    rfl) HSY.out ?_
  simp only [Act.put, List.getElem_toArray, List.getElem_cons_succ, List.getElem_cons_zero, List.setIfInBounds_toArray, List.set_cons_zero, List.set_cons_succ]
  refine oneU 15 rfl (by kernel_rfl) (by rfl) ?_
  have hz := fun W' => zero_mark W'
  have HBA : Hid (Below W.heap.size W (Y.alloc (.cells markZ 61))) := HBY.out.alloc HBY.out.size _
  have HSA := hide (HSX.out _ HBA.out)
  go_wp2_with fail
  refine ⟨(by first | exact fun _ => HSA.out | exact HSA.out), ?_⟩
  try simp only [Act.put, List.getElem_toArray, List.getElem_cons_succ, List.getElem_cons_zero, List.setIfInBounds_toArray, List.set_cons_zero, List.set_cons_succ]
  refine oneU 16 rfl (by kernel_rfl) (by rfl) ?_
  have HST : Hid ((storeCells ⟨Y.heap.size, 0, none⟩ (markI ((J.m : Int) + 1) (J.next : Int) (J.pos : Int)).toList).run Try.prog (Y.alloc (.cells markZ 61)) = .ok () (Y.alloc (.cells (markI ((J.m : Int) + 1) (J.next : Int) (J.pos : Int)) 61))) := cells_mark_new Y _ _ _
  have hst := HST.out
  clear hz
  go_wp2_with fail
  refine doneU (by kernel_rfl) ?_ _
  clear hst HST HSA HSY
  have HBA2 : Hid (Below W.heap.size W (Y.alloc (.cells (markI ((J.m : Int) + 1) (J.next : Int) (J.pos : Int)) 61))) := HBY.out.alloc HBY.out.size _
  have HMB := hide (Blk.new Y 61 (markI ((J.m : Int) + 1) (J.next : Int) (J.pos : Int)))
  generalize Y.heap.size = mk at *
  generalize Y.alloc (.cells (markI ((J.m : Int) + 1) (J.next : Int) (J.pos : Int)) 61) = w2 at *
  have HJB2 := hide (HJB.out.below HBA2.out HJB.out.lt)
  have HSX : Hid (∀ x, DKeep B w2 x → (x.cell? ⟨j, 0, none⟩ = some (.pointer (some ⟨g, 0, none⟩)) ∧ x.cell? ⟨j, 1, none⟩ = some (.int .i64 0) ∧ x.cell? ⟨j, 2, none⟩ = some (.int .i64 (J.z : Int))) ∧ x.cell? ⟨mk, 0, none⟩ = some (.int .i64 ((J.m : Int) + 1)) ∧ x.cell? ⟨mk, 1, none⟩ = some (.int .i64 (J.next : Int)) ∧ x.cell? ⟨mk, 2, none⟩ = some (.int .i64 (J.pos : Int))) := fun x hx => by
    have hj := hx.2 _ _ _ HJB2.out (by decide) (by decide) (by decide)
    have hm := hx.2 _ _ _ HMB.out (by decide) (by decide) (by decide)
    exact ⟨⟨hj.cell 0, hj.cell 1, hj.cell 2⟩, hm.cell 0, hm.cell 1, hm.cell 2⟩
  have hB2 : B ≤ w2.heap.size := Nat.le_trans hB HBA2.out.size
  clear HBY
  go_wp2_with fail
  refine region_U (fun x => (x.cell? ⟨j, 0, none⟩ = some (.pointer (some ⟨g, 0, none⟩)) ∧ x.cell? ⟨j, 1, none⟩ = some (.int .i64 0) ∧ x.cell? ⟨j, 2, none⟩ = some (.int .i64 (J.z : Int))) ∧ x.cell? ⟨mk, 0, none⟩ = some (.int .i64 ((J.m : Int) + 1)) ∧ x.cell? ⟨mk, 1, none⟩ = some (.int .i64 (J.next : Int)) ∧ x.cell? ⟨mk, 2, none⟩ = some (.int .i64 (J.pos : Int))) 11 (by kernel_rfl) ?_
  intro Y hY
  have HBY : Hid (Below w2.heap.size w2 Y) := by rw [hY]; exact (Below.refl _ _).drew
  have HSY := hide (HSX.out Y (DKeep.of_below HBY.out hB2))
  clear hY
  refine takeV 12 0 (.pointer (some ⟨j, 0, none⟩)) rfl (by kernel_rfl) (fun _ _ _ h => h) (by rfl) (fun x hS => by
    obtain ⟨s0, s1, s2, s3⟩ := hS
    go_simp) HSY.out ?_
  simp only [Act.put, List.getElem_toArray, List.getElem_cons_succ, List.getElem_cons_zero, List.setIfInBounds_toArray, List.set_cons_zero, List.set_cons_succ]
  refine takeV 12 1 (.pointer (some ⟨j, 0, none⟩)) rfl (by kernel_rfl) (fun _ _ _ h => h) (by rfl) (fun x hS => by
    obtain ⟨s0, s1, s2, s3⟩ := hS
    go_simp) HSY.out ?_
  simp only [Act.put, List.getElem_toArray, List.getElem_cons_succ, List.getElem_cons_zero, List.setIfInBounds_toArray, List.set_cons_zero, List.set_cons_succ]
  refine takeV 12 2 (.pointer (some ⟨j, 0, none⟩)) rfl (by kernel_rfl) (fun _ _ _ h => h) (by rfl) (fun x hS => by
    obtain ⟨s0, s1, s2, s3⟩ := hS
    go_simp) HSY.out ?_
  simp only [Act.put, List.getElem_toArray, List.getElem_cons_succ, List.getElem_cons_zero, List.setIfInBounds_toArray, List.set_cons_zero, List.set_cons_succ]
  refine takeV 12 3 (.agg (placeC g J.z)) rfl (by kernel_rfl) (fun _ _ _ h => h) (by rfl) (fun x hS => exec_load 56 (.tmp 21) rfl (load_place x j 0 g J.z hS.1.1 hS.1.2.1 hS.1.2.2) rfl) HSY.out ?_
  simp only [Act.put, List.getElem_toArray, List.getElem_cons_succ, List.getElem_cons_zero, List.setIfInBounds_toArray, List.set_cons_zero, List.set_cons_succ]
  refine takeV 12 4 (.pointer (some ⟨mk, 0, none⟩)) rfl (by kernel_rfl) (fun _ _ _ h => h) (by rfl) (fun x hS => by
    obtain ⟨s0, s1, s2, s3⟩ := hS
    go_simp) HSY.out ?_
  simp only [Act.put, List.getElem_toArray, List.getElem_cons_succ, List.getElem_cons_zero, List.setIfInBounds_toArray, List.set_cons_zero, List.set_cons_succ]
  refine takeV 12 5 (.int .i64 ((J.m : Int) + 1)) rfl (by kernel_rfl) (fun _ _ _ h => h) (by rfl) (fun x hS => by
    obtain ⟨s0, s1, s2, s3⟩ := hS
    go_simp) HSY.out ?_
  simp only [Act.put, List.getElem_toArray, List.getElem_cons_succ, List.getElem_cons_zero, List.setIfInBounds_toArray, List.set_cons_zero, List.set_cons_succ]
  refine takeV 12 6 (.int .i64 (((J.m + 1) % 2 : Nat) : Int)) rfl (by kernel_rfl) (fun _ _ _ h => h) (by rfl) (fun x hS => by
    have han := HAN.out
    go_simp) HSY.out ?_
  simp only [Act.put, List.getElem_toArray, List.getElem_cons_succ, List.getElem_cons_zero, List.setIfInBounds_toArray, List.set_cons_zero, List.set_cons_succ]
  refine takeV 12 7 (.agg (markI ((J.m : Int) + 1) (J.next : Int) (J.pos : Int))) rfl (by kernel_rfl) (fun _ _ _ h => h) (by rfl) (fun x hS => exec_load 61 (.tmp 3) rfl (load_mark x mk 0 _ _ _ hS.2.1 hS.2.2.1 hS.2.2.2) rfl) HSY.out ?_
  simp only [Act.put, List.getElem_toArray, List.getElem_cons_succ, List.getElem_cons_zero, List.setIfInBounds_toArray, List.set_cons_zero, List.set_cons_succ]
  refine oneU 8 rfl (by kernel_rfl) (by rfl) ?_
  go_wp2_with fail
  refine (sector_any (J.m + 1) J.next J.pos Y (by omega) (by omega) (by omega)).mono ?_
  rintro e y1 ⟨v1, rfl, ho1, hb1⟩
  have HB1 : Hid (Below w2.heap.size w2 y1) := HBY.out.trans (hb1.mono HBY.out.size)
  have HS1 := hide (HSX.out y1 (DKeep.of_below HB1.out hB2))
  obtain ⟨g1, c1, e1, _, _⟩ := ho1.form (by omega)
  subst e1
  have HSV := hide (sec_of_own ho1 (markL_len (J.m + 1) J.next J.pos))
  clear ho1 hb1
  refine ⟨(by first | exact fun _ => HS1.out | exact HS1.out), ?_⟩
  try simp only [Act.put, List.getElem_toArray, List.getElem_cons_succ, List.getElem_cons_zero, List.setIfInBounds_toArray, List.set_cons_zero, List.set_cons_succ]
  refine oneU 9 rfl (by kernel_rfl) (by rfl) ?_
  have HB2 : Hid (Below w2.heap.size w2 (y1.alloc (.cells #[.slice (some ⟨g1, 0, none⟩) 64 c1] 22))) := HB1.out.alloc HB1.out.size _
  have HS2 := hide (HSX.out _ (DKeep.of_below HB2.out hB2))
  have HRW := hide (rows_single HSV.out)
  go_wp2_with fail
  refine ⟨(by first | exact fun _ => HS2.out | exact HS2.out), ?_⟩
  try simp only [Act.put, List.getElem_toArray, List.getElem_cons_succ, List.getElem_cons_zero, List.setIfInBounds_toArray, List.set_cons_zero, List.set_cons_succ]
  obtain ⟨y2, hy2⟩ : ∃ y2, y1.alloc (.cells #[.slice (some ⟨g1, 0, none⟩) 64 c1] 22) = y2 := ⟨_, rfl⟩
  rw [hy2] at HB2 HS2 HRW ⊢
  clear hy2
  have HB3 : Hid (Below W.heap.size W y2) := HBA2.out.trans (HB2.out.mono HBA2.out.size)
  have HPW := hide (pwrite_any (HD.out.lift HB3.out) (Nat.le_trans hB HB3.out.size) hc J.z (a := (J.m + 1) % 2) (n := 1) (ls := [markL (J.m + 1) J.next J.pos]) rfl (by show _ + 1 ≤ _; omega) hq (fun s hs => by rw [List.mem_singleton.1 hs]; exact markL_len _ _ _) HRW.out (k := 1))
  refine oneU 10 rfl (by kernel_rfl) (by rfl) ?_
  go_wp2_with fail
  refine (unhide HPW).mono ?_
  rintro e y3 ⟨rfl, hd3, hk3⟩
  have HD3 := hide hd3
  have HK3 : Hid (DKeep B W y3) := (DKeep.of_below HB3.out hB).trans hk3
  have HS3 := hide (HSX.out y3 ((DKeep.of_below HB2.out hB2).trans hk3))
  clear hd3 hk3 HPW
  refine ⟨(by first | exact fun _ => HS3.out | exact HS3.out), ?_⟩
  try simp only [Act.put, List.getElem_toArray, List.getElem_cons_succ, List.getElem_cons_zero, List.setIfInBounds_toArray, List.set_cons_zero, List.set_cons_succ]
  refine oneU 11 rfl (by kernel_rfl) (by rfl) ?_
  go_wp2_with fail
  refine doneU (by kernel_rfl) ?_ _
  go_wp2
  go_ret
  exact ⟨rfl, HD3.out, HK3.out⟩
end
end Go.Proofs.Ytogjdfiimflbaaa
