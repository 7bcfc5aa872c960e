/-
  The walk of journal's fault. Conditions: the journal lies so; the puts are right.
-/
import Derived.Test.YtogjdfiimflbaaaJrRoom
namespace Go.Proofs.Ytogjdfiimflbaaa
open Go Go.RowKit

section
variable {W : World} {B T j g c m : Nat} {J : JS} {N : List (List UInt8)}
set_option maxRecDepth 100000 in
set_option maxHeartbeats 4000000 in
theorem faultf_any {jb p gu cu : Nat} {v : Value} (hjb : Blk W j 68 (jrnC g J v)) (hD : DevC W B g c N m) (hx : W.cell? ⟨jb, 0, none⟩ = some (.pointer (some ⟨j, 0, none⟩))) (hxl : jb < W.heap.size) (hz : J.z ≤ p) (hp : p < N.length) :
    Calls Try.prog 46 #[.agg #[.int .i64 (p : Int), .slice (some ⟨gu, 0, none⟩) 64 cu], .pointer (some ⟨jb, 0, none⟩)] W fun e W' => e = .returned (.bool false) ∧ Below W.heap.size W W' := by
  have hb : Below W.heap.size W (W.alloc (.cells #[.int .i64 (p : Int), .slice (some ⟨gu, 0, none⟩) 64 cu] 37)) := (Below.refl _ _).alloc (Nat.le_refl _) _
  have HB := hide hb
  have HD1 := hide (hD.lift hb)
  have HJ1 := hide (hjb.below hb hjb.lt)
  have HP1 := hide (Blk.new W 37 #[.int .i64 (p : Int), .slice (some ⟨gu, 0, none⟩) 64 cu])
  have HX1 : Hid ((W.alloc (.cells #[.int .i64 (p : Int), .slice (some ⟨gu, 0, none⟩) 64 cu] 37)).cell? ⟨jb, 0, none⟩ = some (.pointer (some ⟨j, 0, none⟩)) ∧ jb < (W.alloc (.cells #[.int .i64 (p : Int), .slice (some ⟨gu, 0, none⟩) 64 cu] 37)).heap.size) := ⟨(hb.cell hxl).trans hx, Nat.lt_of_lt_of_le hxl hb.size⟩
  clear hjb hD hx hb
  obtain ⟨w1, hw1⟩ : ∃ w1, W.alloc (.cells #[.int .i64 (p : Int), .slice (some ⟨gu, 0, none⟩) 64 cu] 37) = w1 := ⟨_, rfl⟩
  rw [hw1] at HB HD1 HJ1 HP1 HX1
  have HSX : Hid (∀ x, Below w1.heap.size w1 x → (x.cell? ⟨j, 0, none⟩ = some (.pointer (some ⟨g, 0, none⟩)) ∧ x.cell? ⟨j, 1, none⟩ = some (.int .i64 0) ∧ x.cell? ⟨j, 2, none⟩ = some (.int .i64 (J.z : Int))) ∧ x.cell? ⟨jb, 0, none⟩ = some (.pointer (some ⟨j, 0, none⟩)) ∧ x.cell? ⟨W.heap.size, 0, none⟩ = some (.int .i64 (p : Int)) ∧ x.cell? ⟨W.heap.size, 1, none⟩ = some (.slice (some ⟨gu, 0, none⟩) 64 cu)) := fun x hx => by
    have hj := HJ1.out.below hx HJ1.out.lt
    have hp := HP1.out.below hx HP1.out.lt
    exact ⟨⟨hj.cell 0, hj.cell 1, hj.cell 2⟩, (hx.cell HX1.out.2).trans HX1.out.1, hp.cell 0, hp.cell 1⟩
  go_enter Try.func46, Try.ntmps46
  go_wp2_with fail
  refine region_U (fun x => (x.cell? ⟨j, 0, none⟩ = some (.pointer (some ⟨g, 0, none⟩)) ∧ x.cell? ⟨j, 1, none⟩ = some (.int .i64 0) ∧ x.cell? ⟨j, 2, none⟩ = some (.int .i64 (J.z : Int))) ∧ x.cell? ⟨jb, 0, none⟩ = some (.pointer (some ⟨j, 0, none⟩)) ∧ x.cell? ⟨W.heap.size, 0, none⟩ = some (.int .i64 (p : Int)) ∧ x.cell? ⟨W.heap.size, 1, none⟩ = some (.slice (some ⟨gu, 0, none⟩) 64 cu)) 14 (by kernel_rfl) ?_
  intro Y hY
  have HBY : Hid (Below w1.heap.size w1 Y) := by rw [hY]; exact (Below.refl _ _).drew
  have HSY := hide (HSX.out Y HBY.out)
  clear hY
  refine takeV 15 0 (.pointer (some ⟨j, 0, none⟩)) rfl (by kernel_rfl) (fun _ _ _ h => h) (by rfl) (fun x hS => by
    obtain ⟨s0, s1, s2, s3⟩ := hS
    go_simp) HSY.out ?_
  simp only [Act.put, List.getElem_toArray, List.getElem_cons_succ, List.getElem_cons_zero, List.setIfInBounds_toArray, List.set_cons_zero, List.set_cons_succ]
  refine takeV 15 1 (.pointer (some ⟨j, 0, none⟩)) rfl (by kernel_rfl) (fun _ _ _ h => h) (by rfl) (fun x hS => by
    obtain ⟨s0, s1, s2, s3⟩ := hS
    go_simp) HSY.out ?_
  simp only [Act.put, List.getElem_toArray, List.getElem_cons_succ, List.getElem_cons_zero, List.setIfInBounds_toArray, List.set_cons_zero, List.set_cons_succ]
  refine takeV 15 2 (.pointer (some ⟨j, 0, none⟩)) rfl (by kernel_rfl) (fun _ _ _ h => h) (by rfl) (fun x hS => by
    obtain ⟨s0, s1, s2, s3⟩ := hS
    go_simp) HSY.out ?_
  simp only [Act.put, List.getElem_toArray, List.getElem_cons_succ, List.getElem_cons_zero, List.setIfInBounds_toArray, List.set_cons_zero, List.set_cons_succ]
  refine takeV 15 3 (.agg (placeC g J.z)) rfl (by kernel_rfl) (fun _ _ _ h => h) (by rfl) (fun x hS => exec_load 56 (.tmp 6) rfl (load_place x j 0 g J.z hS.1.1 hS.1.2.1 hS.1.2.2) rfl) HSY.out ?_
  simp only [Act.put, List.getElem_toArray, List.getElem_cons_succ, List.getElem_cons_zero, List.setIfInBounds_toArray, List.set_cons_zero, List.set_cons_succ]
  refine takeV 15 4 (.pointer (some ⟨W.heap.size, 0, none⟩)) rfl (by kernel_rfl) (fun _ _ _ h => h) (by rfl) (fun x hS => by
    obtain ⟨s0, s1, s2, s3⟩ := hS
    go_simp) HSY.out ?_
  simp only [Act.put, List.getElem_toArray, List.getElem_cons_succ, List.getElem_cons_zero, List.setIfInBounds_toArray, List.set_cons_zero, List.set_cons_succ]
  refine takeV 15 5 (.int .i64 (p : Int)) rfl (by kernel_rfl) (fun _ _ _ h => h) (by rfl) (fun x hS => by
    obtain ⟨s0, s1, s2, s3⟩ := hS
    go_simp) HSY.out ?_
  simp only [Act.put, List.getElem_toArray, List.getElem_cons_succ, List.getElem_cons_zero, List.setIfInBounds_toArray, List.set_cons_zero, List.set_cons_succ]
  have HO := hide (outside_any (HD1.out.lift HBY.out) J.z p hz hp)
  refine oneU 6 rfl (by kernel_rfl) (by rfl) ?_
  go_wp2_with fail
  refine (unhide HO).mono ?_
  rintro e w2 ⟨rfl, hb2⟩
  have HB2 : Hid (Below w1.heap.size w1 w2) := HBY.out.trans (hb2.mono HBY.out.size)
  have HS1 := hide (HSX.out w2 HB2.out)
  have HBE : Hid (Below W.heap.size W w2) := HB.out.trans (HB2.out.mono HB.out.size)
  clear hb2 HO
  refine ⟨(by first | exact fun _ => HS1.out | exact HS1.out), ?_⟩
  try simp only [Act.put, List.getElem_toArray, List.getElem_cons_succ, List.getElem_cons_zero, List.setIfInBounds_toArray, List.set_cons_zero, List.set_cons_succ]
  refine oneU 7 rfl (by kernel_rfl) (by rfl) ?_
  go_wp2_with fail
  refine ⟨(by first | exact fun _ => HS1.out | exact HS1.out), ?_⟩
  try simp only [Act.put, List.getElem_toArray, List.getElem_cons_succ, List.getElem_cons_zero, List.setIfInBounds_toArray, List.set_cons_zero, List.set_cons_succ]
  refine oneU 8 rfl (by kernel_rfl) (by rfl) ?_
  go_wp2_with fail
  refine ⟨(by first | exact fun _ => HS1.out | exact HS1.out), ?_⟩
  try simp only [Act.put, List.getElem_toArray, List.getElem_cons_succ, List.getElem_cons_zero, List.setIfInBounds_toArray, List.set_cons_zero, List.set_cons_succ]
  refine oneU 9 rfl (by kernel_rfl) (by rfl) ?_
  go_wp2_with fail
  refine ⟨(by first | exact fun _ => HS1.out | exact HS1.out), ?_⟩
  try simp only [Act.put, List.getElem_toArray, List.getElem_cons_succ, List.getElem_cons_zero, List.setIfInBounds_toArray, List.set_cons_zero, List.set_cons_succ]
  obtain ⟨s0, s1, s2, s3⟩ := HS1.out
  refine oneU 10 rfl (by kernel_rfl) (by rfl) ?_
  go_wp2_with fail
  try simp only [Act.put, List.getElem_toArray, List.getElem_cons_succ, List.getElem_cons_zero, List.setIfInBounds_toArray, List.set_cons_zero, List.set_cons_succ]
  clear s0 s1 s2 s3
  refine oneU 11 rfl (by kernel_rfl) (by rfl) ?_
  go_wp2_with fail
  refine ⟨(by first | exact fun _ => HS1.out | exact HS1.out), ?_⟩
  try simp only [Act.put, List.getElem_toArray, List.getElem_cons_succ, List.getElem_cons_zero, List.setIfInBounds_toArray, List.set_cons_zero, List.set_cons_succ]
  refine oneU 12 rfl (by kernel_rfl) (by rfl) ?_
  go_wp2_with fail
  refine ⟨(by first | exact fun _ => HS1.out | exact HS1.out), ?_⟩
  try simp only [Act.put, List.getElem_toArray, List.getElem_cons_succ, List.getElem_cons_zero, List.setIfInBounds_toArray, List.set_cons_zero, List.set_cons_succ]
  refine oneU 13 rfl (by kernel_rfl) (by rfl) ?_
  go_wp2_with fail
  refine ⟨(by first | exact fun _ => HS1.out | exact HS1.out), ?_⟩
  try simp only [Act.put, List.getElem_toArray, List.getElem_cons_succ, List.getElem_cons_zero, List.setIfInBounds_toArray, List.set_cons_zero, List.set_cons_succ]
  refine oneU 14 rfl (by kernel_rfl) (by rfl) ?_
  go_wp2_with fail
  refine doneU (by kernel_rfl) ?_ _
  go_wp2
  go_ret
  exact ⟨rfl, HBE.out⟩
set_option maxRecDepth 100000 in
set_option maxHeartbeats 4000000 in
theorem fault_any (h : JAt W B T j g J) (hD : DevC W B g c N m) {A : Option Addr} {ps : List PutL} {k : Nat} (hA : PutsAt W A ps) (h1 : 1 ≤ ps.length) (h10 : ps.length ≤ 10) (hok : ∀ p ∈ ps, PutOk p ∧ J.z ≤ p.1 ∧ p.1 < N.length) (hz : ps.length + 4 ≤ J.z) (hz2 : J.z ≤ 65536) :
    Calls Try.prog 27 #[.pointer (some ⟨j, 0, none⟩), .slice A ps.length k] W fun e W' => e = .returned (.int .i64 0) ∧ Below W.heap.size W W' := by
  obtain ⟨Ao, co, hpa, hjb⟩ := h.cells
  have hb : Below W.heap.size W (W.alloc (.cells #[.pointer (some ⟨j, 0, none⟩)] 29)) := (Below.refl _ _).alloc (Nat.le_refl _) _
  have HB := hide hb
  have HJ1 := hide (hjb.below hb hjb.lt)
  have HD1 := hide (hD.lift hb)
  have HBX := hide (Blk.new W 29 #[.pointer (some ⟨j, 0, none⟩)])
  have HOK := hide hok
  obtain ⟨gr, xs, rfl, hxl, hxs⟩ := (hA.below hb).list (by omega)
  have t1 : ((ps.length : Int) == 0) = false := beq_eq_false_iff_ne.2 (by omega)
  have t2 : decide ((ps.length : Int) > 10) = false := decide_eq_false (by omega)
  have t3 : decide ((ps.length : Int) + 2 > (J.z : Int) - 2) = false := decide_eq_false (by omega)
  have HXS := hide hxs
  clear h hpa hjb hb hA hD hok hxs
  obtain ⟨w1, hw1⟩ : ∃ w1, W.alloc (.cells #[.pointer (some ⟨j, 0, none⟩)] 29) = w1 := ⟨_, rfl⟩
  rw [hw1] at HB HJ1 HD1 HBX HXS
  have HCN := hide (cont_no (W := w1) xs gr ps.length k hxl.symm (by omega) 46 #[] #[.pointer (some ⟨W.heap.size, 0, none⟩)] (Below w1.heap.size w1) (Below.refl _ _) (fun k p u w hk hi => (HXS.out k p u hk).2 w hi) run_faultf (fun k p u w hk hi => by
    obtain ⟨⟨b, hb, hs⟩, _⟩ := HXS.out k p u hk
    have ho := HOK.out (p, b) (List.mem_of_getElem? hb)
    obtain ⟨gi, ci, cu, rfl, _⟩ := hs
    have h64 : b.length = 64 := ho.1.2
    rw [h64]
    have hbx := HBX.out.below hi HBX.out.lt
    refine (faultf_any (HJ1.out.below hi HJ1.out.lt) (HD1.out.lift hi) (hbx.cell 0) hbx.lt ho.2.1 ho.2.2).mono ?_
    rintro e w' ⟨rfl, hb'⟩
    exact ⟨rfl, hi.trans (hb'.mono hi.size)⟩))
  go_enter Try.func27, Try.ntmps27
  go_wp2_with fail
  refine (unhide HCN).mono ?_
  rintro e w2 ⟨rfl, hb2⟩
  have HBE : Hid (Below W.heap.size W w2) := HB.out.trans (hb2.mono HB.out.size)
  have r0 : w2.cell? ⟨W.heap.size, 0, none⟩ = some (.pointer (some ⟨j, 0, none⟩)) := (HBX.out.below hb2 HBX.out.lt).cell 0
  have r2 : w2.cell? ⟨j, 2, none⟩ = some (.int .i64 (J.z : Int)) := (HJ1.out.below hb2 HJ1.out.lt).cell 2
  have i1 : IntKind.i64.wrap ((J.z : Int) - 2) = (J.z : Int) - 2 := by rw [IntKind.wrap_i64]; omega
  clear hb2 HCN
  go_wp2
  go_ret
  exact ⟨rfl, HBE.out⟩
end
end Go.Proofs.Ytogjdfiimflbaaa
