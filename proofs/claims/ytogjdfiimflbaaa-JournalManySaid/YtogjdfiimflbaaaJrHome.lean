/-
  The walks of journal's home, tell and settled. Conditions: the journal lies so, on a device that no call fails.
-/
import Derived.Test.YtogjdfiimflbaaaJrJ
import Derived.Test.YtogjdfiimflbaaaTailV
namespace Go.Proofs.Ytogjdfiimflbaaa
open Go Go.RowKit

section
variable {W : World} {B T j g c m : Nat} {J : JS} {N : List (List UInt8)}
set_option maxRecDepth 100000 in
set_option maxHeartbeats 2000000 in
theorem home_any (h : JAt W B T j g J) (hD : DevC W B g c N m) (hB : B ≤ W.heap.size) (hc : c + J.owed.length < 1048576) (hq : m + J.owed.length ≤ 1048576) (hok : ∀ p ∈ J.owed, PutOk p ∧ p.1 < N.length) :
    Calls Try.prog 24 #[.pointer (some ⟨j, 0, none⟩)] W fun e W' => e = .returned (.int .i64 0) ∧ DevC W' B g (c + J.owed.length) (homeN N J.owed) (m + J.owed.length) ∧ DKeep B W W' := by
  obtain ⟨A, co, hpa, hjb⟩ := h.cells
  have HPA := hide hpa
  have HJB := hide hjb
  have HD := hide hD
  have HOK := hide hok
  have r6 : W.cell? ⟨j, 10, none⟩ = some (.slice A J.owed.length co) := hjb.cell 10
  clear h hD hpa hjb hok
  generalize J.owed = ps at *
  go_enter Try.func24, Try.ntmps24
  go_wp2
  clear r6
  go_loopw [11] (fun i wr => ∃ k : Nat, k ≤ ps.length ∧ i = .int .i64 k ∧ DevC wr B g (c + k) (homeN N (ps.take k)) (m + k) ∧ DKeep B W wr) (fun i _ => ps.length - (intOf i).toNat)
  case atStart => exact ⟨0, Nat.zero_le _, rfl, HD.out, DKeep.refl _ _⟩
  case round =>
    obtain ⟨k, hk, rfl, hd, hkp⟩ := hrel
    have HDR := hide hd
    have HKR := hide hkp
    have HJR : Hid (Blk wr j 68 (jrnC g J (.slice A ps.length co))) := hkp.2 _ _ _ HJB.out (by decide) (by decide) (by decide)
    clear hd hkp
    by_cases hlt : k < ps.length
    · obtain ⟨gr, cur, rfl, hb0, hc0⟩ := (HPA.out.dkeep HKR.out) (by omega)
      obtain ⟨u, c0, c1, hsu⟩ := hc0 k ps[k] (List.getElem?_eq_getElem hlt)
      obtain ⟨gb, cb, cub, rfl, hcb, hbb0, htk, _⟩ := hsu
      have HPO := hide (HOK.out _ (List.getElem_mem hlt))
      have HT := hide (show ps.take (k + 1) = ps.take k ++ [ps[k]] from List.take_succ_eq_append_getElem hlt)
      generalize ps[k] = p at *
      have hp64 := HPO.out.1.2
      rw [hp64] at c1 htk hcb
      have r0 : wr.cell? ⟨gr, k * 2, none⟩ = some (.int .i64 (p.1 : Int)) := by rw [hb0.cell, Nat.mul_comm]; exact c0
      have r1 : wr.cell? ⟨gr, k * 2 + 1, none⟩ = some (.slice (some ⟨gb, 0, none⟩) 64 cb) := by rw [hb0.cell, Nat.mul_comm]; exact c1
      have hzp : ∀ W', (zeroValue 37).run Try.prog W' = .ok (.agg #[.int .i64 0, .slice none 0 0]) W' := fun W' => zero_put W'
      have HBP : Hid (Blk (wr.alloc (.cells (putC p (.slice (some ⟨gb, 0, none⟩) 64 cb)) 37)) wr.heap.size 37 (putC p (.slice (some ⟨gb, 0, none⟩) 64 cb))) := Blk.new _ _ _
      have HLO : Hid (Below wr.heap.size wr (wr.alloc (.cells (putC p (.slice (some ⟨gb, 0, none⟩) 64 cb)) 37))) := (Below.refl _ _).alloc (Nat.le_refl _) _
      have HSV : Hid (SecV wr (fun _ => True) (.slice (some ⟨gb, 0, none⟩) 64 cb) p.2) := ⟨gb, cb, cub, by rw [hp64], by omega, hbb0, by rw [hp64]; exact htk, trivial⟩
      have i1 : (0 : Int) ≤ (k : Int) := by omega
      have i2 : (k : Int) < (ps.length : Int) := by omega
      clear c0 c1 hb0 hc0 hbb0 htk HPA
      obtain ⟨w5, hw5⟩ : ∃ w5, wr.alloc (.cells (putC p (.slice (some ⟨gb, 0, none⟩) 64 cb)) 37) = w5 := ⟨_, rfl⟩
      rw [hw5] at HBP HLO
      unfold putC at hw5
      go_wp2_with fail
      clear hw5 hzp r0 r1
      have HSX : Hid (∀ x, Below w5.heap.size w5 x → x.cell? ⟨j, 0, none⟩ = some (.pointer (some ⟨g, 0, none⟩)) ∧ x.cell? ⟨wr.heap.size, 0, none⟩ = some (.int .i64 (p.1 : Int)) ∧ x.cell? ⟨wr.heap.size, 1, none⟩ = some (.slice (some ⟨gb, 0, none⟩) 64 cb)) := fun x hx => by
        have hb := HBP.out.below hx HBP.out.lt
        have hj5 := HJR.out.below HLO.out HJR.out.lt
        have hj := hj5.below hx hj5.lt
        exact ⟨hj.cell 0, hb.cell 0, hb.cell 1⟩
      refine region_U (fun x => x.cell? ⟨j, 0, none⟩ = some (.pointer (some ⟨g, 0, none⟩)) ∧ x.cell? ⟨wr.heap.size, 0, none⟩ = some (.int .i64 (p.1 : Int)) ∧ x.cell? ⟨wr.heap.size, 1, none⟩ = some (.slice (some ⟨gb, 0, none⟩) 64 cb)) 11 (by kernel_rfl) ?_
      intro Y hY
      have HBY : Hid (Below w5.heap.size w5 Y) := by rw [hY]; exact (Below.refl _ _).drew
      have HSY := hide (HSX.out Y HBY.out)
      clear hY
      refine takeV 12 0 (.pointer (some ⟨j, 0, none⟩)) rfl (by kernel_rfl) (fun _ _ _ h => h) (by rfl) (fun x hS => by
        obtain ⟨s1, s2, s3⟩ := hS
        go_simp) HSY.out ?_
      simp only [Act.put, List.getElem_toArray, List.getElem_cons_succ, List.getElem_cons_zero, List.setIfInBounds_toArray, List.set_cons_zero, List.set_cons_succ]
      refine takeV 12 1 (.pointer (some ⟨j, 0, none⟩)) rfl (by kernel_rfl) (fun _ _ _ h => h) (by rfl) (fun x hS => by
        obtain ⟨s1, s2, s3⟩ := hS
        go_simp) HSY.out ?_
      simp only [Act.put, List.getElem_toArray, List.getElem_cons_succ, List.getElem_cons_zero, List.setIfInBounds_toArray, List.set_cons_zero, List.set_cons_succ]
      refine takeV 12 2 (.pointer (some ⟨j, 0, none⟩)) rfl (by kernel_rfl) (fun _ _ _ h => h) (by rfl) (fun x hS => by
        obtain ⟨s1, s2, s3⟩ := hS
        go_simp) HSY.out ?_
      simp only [Act.put, List.getElem_toArray, List.getElem_cons_succ, List.getElem_cons_zero, List.setIfInBounds_toArray, List.set_cons_zero, List.set_cons_succ]
      refine takeV 12 3 (.pointer (some ⟨j, 0, none⟩)) rfl (by kernel_rfl) (fun _ _ _ h => h) (by rfl) (fun x hS => by
        obtain ⟨s1, s2, s3⟩ := hS
        go_simp) HSY.out ?_
      simp only [Act.put, List.getElem_toArray, List.getElem_cons_succ, List.getElem_cons_zero, List.setIfInBounds_toArray, List.set_cons_zero, List.set_cons_succ]
      refine takeV 12 4 (.pointer (some ⟨g, 0, none⟩)) rfl (by kernel_rfl) (fun _ _ _ h => h) (by rfl) (fun x hS => by
        obtain ⟨s1, s2, s3⟩ := hS
        go_simp) HSY.out ?_
      simp only [Act.put, List.getElem_toArray, List.getElem_cons_succ, List.getElem_cons_zero, List.setIfInBounds_toArray, List.set_cons_zero, List.set_cons_succ]
      refine takeV 12 5 (.pointer (some ⟨wr.heap.size, 0, none⟩)) rfl (by kernel_rfl) (fun _ _ _ h => h) (by rfl) (fun x hS => by
        obtain ⟨s1, s2, s3⟩ := hS
        go_simp) HSY.out ?_
      simp only [Act.put, List.getElem_toArray, List.getElem_cons_succ, List.getElem_cons_zero, List.setIfInBounds_toArray, List.set_cons_zero, List.set_cons_succ]
      refine takeV 12 6 (.int .i64 (p.1 : Int)) rfl (by kernel_rfl) (fun _ _ _ h => h) (by rfl) (fun x hS => by
        obtain ⟨s1, s2, s3⟩ := hS
        go_simp) HSY.out ?_
      simp only [Act.put, List.getElem_toArray, List.getElem_cons_succ, List.getElem_cons_zero, List.setIfInBounds_toArray, List.set_cons_zero, List.set_cons_succ]
      refine takeV 12 7 (.pointer (some ⟨wr.heap.size, 1, none⟩)) rfl (by kernel_rfl) (fun _ _ _ h => h) (by rfl) (fun x hS => by
        obtain ⟨s1, s2, s3⟩ := hS
        go_simp) HSY.out ?_
      simp only [Act.put, List.getElem_toArray, List.getElem_cons_succ, List.getElem_cons_zero, List.setIfInBounds_toArray, List.set_cons_zero, List.set_cons_succ]
      refine takeV 12 8 (.slice (some ⟨gb, 0, none⟩) 64 cb) rfl (by kernel_rfl) (fun _ _ _ h => h) (by rfl) (fun x hS => by
        obtain ⟨s1, s2, s3⟩ := hS
        go_simp) HSY.out ?_
      simp only [Act.put, List.getElem_toArray, List.getElem_cons_succ, List.getElem_cons_zero, List.setIfInBounds_toArray, List.set_cons_zero, List.set_cons_succ]
      refine oneU 9 rfl (by kernel_rfl) (by rfl) ?_
      have HBY2 : Hid (Below w5.heap.size w5 (Y.alloc (.cells #[.slice (some ⟨gb, 0, none⟩) 64 cb] 22))) := HBY.out.alloc HBY.out.size _
      have HS2 := hide (HSX.out _ HBY2.out)
      have HRW := hide (rows_single (HSV.out.below (HLO.out.trans (HBY.out.mono HLO.out.size))))
      go_wp2_with fail
      refine ⟨(by first | exact fun _ => HS2.out | exact HS2.out), ?_⟩
      try simp only [Act.put, List.getElem_toArray, List.getElem_cons_succ, List.getElem_cons_zero, List.setIfInBounds_toArray, List.set_cons_zero, List.set_cons_succ]
      obtain ⟨y2, hy2⟩ : ∃ y2, Y.alloc (.cells #[.slice (some ⟨gb, 0, none⟩) 64 cb] 22) = y2 := ⟨_, rfl⟩
      rw [hy2] at HBY2 HS2 HRW ⊢
      clear hy2
      have HB2 : Hid (Below wr.heap.size wr y2) := HLO.out.trans (HBY2.out.mono HLO.out.size)
      have hBy : B ≤ wr.heap.size := Nat.le_trans hB HKR.out.1.size
      have HPW := hide ((HDR.out.lift HB2.out).write (a := p.1) (n := 1) (k := 1) (ls := [p.2]) (by omega) rfl (by rw [homeN_len]; have := HPO.out.2; exact this) (by show m + k + 1 ≤ _; omega) (fun s hs => by rw [List.mem_singleton.1 hs]; exact hp64) HRW.out)
      refine oneU 10 rfl (by kernel_rfl) (by rfl) ?_
      go_wp2_with fail
      refine (unhide HPW).mono ?_
      rintro e y3 ⟨rfl, hd3, hk3⟩
      have HD3 := hide hd3
      have HK3 : Hid (DKeep B wr y3) := (DKeep.of_below HB2.out hBy).trans hk3
      have HS3 : Hid (y3.cell? ⟨j, 0, none⟩ = some (.pointer (some ⟨g, 0, none⟩)) ∧ y3.cell? ⟨wr.heap.size, 0, none⟩ = some (.int .i64 (p.1 : Int)) ∧ y3.cell? ⟨wr.heap.size, 1, none⟩ = some (.slice (some ⟨gb, 0, none⟩) 64 cb)) := by
        have hb := hk3.2 _ _ _ ((HBP.out.below HBY2.out HBP.out.lt)) (by decide) (by decide) (by decide)
        have hj := HK3.out.2 _ _ _ HJR.out (by decide) (by decide) (by decide)
        exact ⟨hj.cell 0, hb.cell 0, hb.cell 1⟩
      clear hd3 hk3 HPW
      refine ⟨(by first | exact fun _ => HS3.out | exact HS3.out), ?_⟩
      try simp only [Act.put, List.getElem_toArray, List.getElem_cons_succ, List.getElem_cons_zero, List.setIfInBounds_toArray, List.set_cons_zero, List.set_cons_succ]
      refine oneU 11 rfl (by kernel_rfl) (by rfl) ?_
      go_wp2_with fail
      refine doneU (by kernel_rfl) ?_ _
      have HHN : Hid (wsec (homeN N (ps.take k)) p.1 [p.2] = homeN N (ps.take (k + 1))) := by
        show _ = _
        rw [HT.out, homeN_snoc]
      go_wp2
      go_roundw
      case rel => exact ⟨k + 1, by omega, by go_num, by rw [← HHN.out]; exact HD3.out, HKR.out.trans HK3.out⟩
      case measure => simp [intOf]; omega
    · obtain rfl : k = ps.length := by omega
      rw [List.take_length] at HDR
      go_wp2
      go_ret
      exact ⟨rfl, HDR.out, HKR.out⟩
end
end Go.Proofs.Ytogjdfiimflbaaa
