/-
  The walks of Commit's closures. Conditions: the journal and the record lie so, on a device that no call fails.
-/
import Derived.Test.YtogjdfiimflbaaaJrCat
namespace Go.Proofs.Ytogjdfiimflbaaa
open Go Go.RowKit

section
variable {W : World} {B T j g c m jb ab lb sb a last k gl : Nat} {J : JS} {N ls : List (List UInt8)} {v : Value}
set_option maxRecDepth 100000 in
set_option maxHeartbeats 1000000 in
theorem cmt1_any (hJ : Blk W j 68 (jrnC g J v)) (hD : DevC W B g c N m) (hB : B ≤ W.heap.size) (hc : c < 1048576) (hjb : Blk W jb 29 #[.pointer (some ⟨j, 0, none⟩)]) (hab : Blk W ab 3 #[.int .i64 (a : Int)]) (hlb : Blk W lb 43 #[.slice (some ⟨gl, 0, none⟩) (last + 1) k]) (hsb : Blk W sb 3 #[.int .i64 (last : Int)])
    (hn : ls.length = last + 1) (h1 : 1 ≤ last) (hA : RowsBlk W (some ⟨gl, 0, none⟩) ls) (hk : last + 1 ≤ k) (h64 : All64 ls) (ha : a + ls.length ≤ N.length) (hq : m + ls.length ≤ 100000) :
    Calls Try.prog 31 #[.pointer (some ⟨jb, 0, none⟩), .pointer (some ⟨ab, 0, none⟩), .pointer (some ⟨lb, 0, none⟩), .pointer (some ⟨sb, 0, none⟩)] W fun e W' => e = .returned (.int .i64 0) ∧ DevC W' B g (c + 1) (wsec N a (ls.take last ++ [zero64])) (m + ls.length) ∧ DKeep B W W' := by
  have HSX : Hid (∀ x, DKeep B W x → (x.cell? ⟨j, 0, none⟩ = some (.pointer (some ⟨g, 0, none⟩)) ∧ x.cell? ⟨j, 1, none⟩ = some (.int .i64 0) ∧ x.cell? ⟨j, 2, none⟩ = some (.int .i64 (J.z : Int))) ∧ x.cell? ⟨jb, 0, none⟩ = some (.pointer (some ⟨j, 0, none⟩)) ∧ x.cell? ⟨ab, 0, none⟩ = some (.int .i64 (a : Int)) ∧ x.cell? ⟨lb, 0, none⟩ = some (.slice (some ⟨gl, 0, none⟩) (last + 1) k) ∧ x.cell? ⟨sb, 0, none⟩ = some (.int .i64 (last : Int))) := fun x hx => by
    have h0 := hx.2 _ _ _ hJ (by decide) (by decide) (by decide)
    have h1 := hx.2 _ _ _ hjb (by decide) (by decide) (by decide)
    have h2 := hx.2 _ _ _ hab (by decide) (by decide) (by decide)
    have h3 := hx.2 _ _ _ hlb (by decide) (by decide) (by decide)
    have h4 := hx.2 _ _ _ hsb (by decide) (by decide) (by decide)
    exact ⟨⟨h0.cell 0, h0.cell 1, h0.cell 2⟩, h1.cell 0, h2.cell 0, h3.cell 0, h4.cell 0⟩
  have HD := hide hD
  have HA := hide hA
  have H64 := hide h64
  have hlt : (ls.take last).length = last := by rw [List.length_take]; omega
  have i1 : (0 : Int) ≤ (last : Int) := by omega
  have i2 : (last : Int) ≤ (k : Int) := by omega
  have i3 : (last : Int) ≤ (last : Int) + 1 := by omega
  clear hJ hjb hab hlb hsb hD hA h64
  go_enter Try.func31, Try.ntmps31
  go_wp2_with fail
  refine region_U (fun x => (x.cell? ⟨j, 0, none⟩ = some (.pointer (some ⟨g, 0, none⟩)) ∧ x.cell? ⟨j, 1, none⟩ = some (.int .i64 0) ∧ x.cell? ⟨j, 2, none⟩ = some (.int .i64 (J.z : Int))) ∧ x.cell? ⟨jb, 0, none⟩ = some (.pointer (some ⟨j, 0, none⟩)) ∧ x.cell? ⟨ab, 0, none⟩ = some (.int .i64 (a : Int)) ∧ x.cell? ⟨lb, 0, none⟩ = some (.slice (some ⟨gl, 0, none⟩) (last + 1) k) ∧ x.cell? ⟨sb, 0, none⟩ = some (.int .i64 (last : Int))) 13 (by kernel_rfl) ?_
  intro Y hY
  have HBY : Hid (Below W.heap.size W Y) := by rw [hY]; exact (Below.refl _ _).drew
  have HSY := hide (HSX.out Y (DKeep.of_below HBY.out hB))
  clear hY
  refine takeV 14 0 (.pointer (some ⟨j, 0, none⟩)) rfl (by kernel_rfl) (fun _ _ _ h => h) (by rfl) (fun x hS => by
    obtain ⟨s0, s1, s2, s3, s4⟩ := hS
    go_simp) HSY.out ?_
  simp only [Act.put, List.getElem_toArray, List.getElem_cons_succ, List.getElem_cons_zero, List.setIfInBounds_toArray, List.set_cons_zero, List.set_cons_succ]
  refine takeV 14 1 (.pointer (some ⟨j, 0, none⟩)) rfl (by kernel_rfl) (fun _ _ _ h => h) (by rfl) (fun x hS => by
    obtain ⟨s0, s1, s2, s3, s4⟩ := hS
    go_simp) HSY.out ?_
  simp only [Act.put, List.getElem_toArray, List.getElem_cons_succ, List.getElem_cons_zero, List.setIfInBounds_toArray, List.set_cons_zero, List.set_cons_succ]
  refine takeV 14 2 (.pointer (some ⟨j, 0, none⟩)) rfl (by kernel_rfl) (fun _ _ _ h => h) (by rfl) (fun x hS => by
    obtain ⟨s0, s1, s2, s3, s4⟩ := hS
    go_simp) HSY.out ?_
  simp only [Act.put, List.getElem_toArray, List.getElem_cons_succ, List.getElem_cons_zero, List.setIfInBounds_toArray, List.set_cons_zero, List.set_cons_succ]
  refine takeV 14 3 (.agg (placeC g J.z)) rfl (by kernel_rfl) (fun _ _ _ h => h) (by rfl) (fun x hS => exec_load 56 (.tmp 7) rfl (load_place x j 0 g J.z hS.1.1 hS.1.2.1 hS.1.2.2) rfl) HSY.out ?_
  simp only [Act.put, List.getElem_toArray, List.getElem_cons_succ, List.getElem_cons_zero, List.setIfInBounds_toArray, List.set_cons_zero, List.set_cons_succ]
  refine takeV 14 4 (.int .i64 (a : Int)) rfl (by kernel_rfl) (fun _ _ _ h => h) (by rfl) (fun x hS => by
    obtain ⟨s0, s1, s2, s3, s4⟩ := hS
    go_simp) HSY.out ?_
  simp only [Act.put, List.getElem_toArray, List.getElem_cons_succ, List.getElem_cons_zero, List.setIfInBounds_toArray, List.set_cons_zero, List.set_cons_succ]
  refine takeV 14 5 (.slice (some ⟨gl, 0, none⟩) (last + 1) k) rfl (by kernel_rfl) (fun _ _ _ h => h) (by rfl) (fun x hS => by
    obtain ⟨s0, s1, s2, s3, s4⟩ := hS
    go_simp) HSY.out ?_
  simp only [Act.put, List.getElem_toArray, List.getElem_cons_succ, List.getElem_cons_zero, List.setIfInBounds_toArray, List.set_cons_zero, List.set_cons_succ]
  refine takeV 14 6 (.int .i64 (last : Int)) rfl (by kernel_rfl) (fun _ _ _ h => h) (by rfl) (fun x hS => by
    obtain ⟨s0, s1, s2, s3, s4⟩ := hS
    go_simp) HSY.out ?_
  simp only [Act.put, List.getElem_toArray, List.getElem_cons_succ, List.getElem_cons_zero, List.setIfInBounds_toArray, List.set_cons_zero, List.set_cons_succ]
  refine takeV 14 7 (.slice (some ⟨gl, 0, none⟩) last k) rfl (by kernel_rfl) (fun _ _ _ h => h) (by rfl) (fun x hS => by
    obtain ⟨s0, s1, s2, s3, s4⟩ := hS
    go_simp) HSY.out ?_
  simp only [Act.put, List.getElem_toArray, List.getElem_cons_succ, List.getElem_cons_zero, List.setIfInBounds_toArray, List.set_cons_zero, List.set_cons_succ]
  refine oneU 8 rfl (by kernel_rfl) (by rfl) ?_
  go_wp2_with fail
  refine (padded_any [] (.slice none 0 0) 0 Y.heap.size Y rfl (by decide) (Nat.le_refl _) (World.ownsRow_nil _ _ _ _)).mono ?_
  rintro e y1 ⟨v1, rfl, ho1, _, hf1⟩
  obtain ⟨g1, c1, e1, _, _⟩ := ho1.form (by omega)
  subst e1
  have HB1 : Hid (Below W.heap.size W y1) := HBY.out.trans ((hf1.below (Nat.le_refl _) (fun q e => by cases e)).mono HBY.out.size)
  have HS1 := hide (HSX.out y1 (DKeep.of_below HB1.out hB))
  have hzz : padL [] = zero64 := rfl
  rw [hzz] at ho1
  have HSV := hide (sec_of_own (b := zero64) ho1 rfl)
  clear ho1 hf1
  refine ⟨(by first | exact fun _ => HS1.out | exact HS1.out), ?_⟩
  try simp only [Act.put, List.getElem_toArray, List.getElem_cons_succ, List.getElem_cons_zero, List.setIfInBounds_toArray, List.set_cons_zero, List.set_cons_succ]
  refine oneU 9 rfl (by kernel_rfl) (by rfl) ?_
  have HB2 : Hid (Below W.heap.size W (y1.alloc (.cells #[.slice (some ⟨g1, 0, none⟩) 64 c1] 22))) := HB1.out.alloc HB1.out.size _
  have HS2 := hide (HSX.out _ (DKeep.of_below HB2.out hB))
  have HRW := hide (rows_single HSV.out)
  go_wp2_with fail
  refine ⟨(by first | exact fun _ => HS2.out | exact HS2.out), ?_⟩
  try simp only [Act.put, List.getElem_toArray, List.getElem_cons_succ, List.getElem_cons_zero, List.setIfInBounds_toArray, List.set_cons_zero, List.set_cons_succ]
  generalize y1.heap.size = g2 at *
  generalize y1.alloc (.cells #[.slice (some ⟨g1, 0, none⟩) 64 c1] 22) = y2 at *
  refine oneU 10 rfl (by kernel_rfl) (by rfl) ?_
  have HA3 : Hid (Below y2.heap.size y2 (y2.alloc (.cells #[.slice (some ⟨gl, 0, none⟩) last k, .slice (some ⟨g2, 0, none⟩) 1 1] 43))) := (Below.refl _ _).alloc (Nat.le_refl _) _
  have HB3 : Hid (Below W.heap.size W (y2.alloc (.cells #[.slice (some ⟨gl, 0, none⟩) last k, .slice (some ⟨g2, 0, none⟩) 1 1] 43))) := HB2.out.alloc HB2.out.size _
  have HS3 := hide (HSX.out _ (DKeep.of_below HB3.out hB))
  have HBK := hide (Blk.new y2 43 #[.slice (some ⟨gl, 0, none⟩) last k, .slice (some ⟨g2, 0, none⟩) 1 1])
  go_wp2_with fail
  refine ⟨(by first | exact fun _ => HS3.out | exact HS3.out), ?_⟩
  try simp only [Act.put, List.getElem_toArray, List.getElem_cons_succ, List.getElem_cons_zero, List.setIfInBounds_toArray, List.set_cons_zero, List.set_cons_succ]
  have HRT : Hid (RowsBlk (y2.alloc (.cells #[.slice (some ⟨gl, 0, none⟩) last k, .slice (some ⟨g2, 0, none⟩) 1 1] 43)) (some ⟨gl, 0, none⟩) (ls.take last)) := by
    show RowsBlk _ _ _
    intro hp
    obtain ⟨gr, cur, e, hb, hcc⟩ := (HA.out.below HB3.out) (by omega)
    refine ⟨gr, cur, e, hb, fun i hi => ?_⟩
    rw [hlt] at hi
    have hil : i < ls.length := by omega
    obtain ⟨gi, ci, cu, k1, k2, k3, k4⟩ := hcc i hil
    have ee : (ls.take last)[i]'(by rw [hlt]; exact hi) = ls[i] := List.getElem_take
    exact ⟨gi, ci, cu, by rw [ee]; exact k1, by rw [ee]; exact k2, k3, by rw [ee]; exact k4⟩
  have HCC := hide (concat_any (HBK.out.cell 0) (HBK.out.cell 1) HBK.out.lt HRT.out (HRW.out.below HA3.out) hlt.symm rfl (by omega) (Nat.le_refl _) (by rw [hlt]; show last + 1 ≤ _; omega))
  rw [hlt, List.length_singleton] at HCC
  refine oneU 11 rfl (by kernel_rfl) (by rfl) ?_
  go_wp2_with fail
  refine (unhide HCC).mono ?_
  rintro e y4 ⟨A4, c4, rfl, hr4, hb4⟩
  have HR4 := hide hr4
  have HB4 : Hid (Below W.heap.size W y4) := HB3.out.trans (hb4.mono HB3.out.size)
  have HS4 := hide (HSX.out y4 (DKeep.of_below HB4.out hB))
  clear hr4 hb4 HCC
  refine ⟨(by first | exact fun _ => HS4.out | exact HS4.out), ?_⟩
  try simp only [Act.put, List.getElem_toArray, List.getElem_cons_succ, List.getElem_cons_zero, List.setIfInBounds_toArray, List.set_cons_zero, List.set_cons_succ]
  have hll : (ls.take last ++ [zero64]).length = ls.length := by rw [List.length_append, hlt, hn]; rfl
  have HPW := hide (pwrite_any (HD.out.lift HB4.out) (Nat.le_trans hB HB4.out.size) hc J.z (a := a) (n := last + 1) (ls := ls.take last ++ [zero64]) (by rw [hll, hn]) (by rw [hll]; exact ha) (by rw [hll]; omega) (fun s hs => by
    rcases List.mem_append.1 hs with h | h
    · exact H64.out s (List.mem_of_mem_take h)
    · rw [List.mem_singleton.1 h]; rfl) HR4.out (k := c4))
  rw [hll] at HPW
  refine oneU 12 rfl (by kernel_rfl) (by rfl) ?_
  go_wp2_with fail
  refine (unhide HPW).mono ?_
  rintro e y5 ⟨rfl, hd5, hk5⟩
  have HD5 := hide hd5
  have HK5 : Hid (DKeep B W y5) := (DKeep.of_below HB4.out hB).trans hk5
  have HS5 := hide (HSX.out y5 HK5.out)
  clear hd5 hk5 HPW
  refine ⟨(by first | exact fun _ => HS5.out | exact HS5.out), ?_⟩
  try simp only [Act.put, List.getElem_toArray, List.getElem_cons_succ, List.getElem_cons_zero, List.setIfInBounds_toArray, List.set_cons_zero, List.set_cons_succ]
  refine oneU 13 rfl (by kernel_rfl) (by rfl) ?_
  go_wp2_with fail
  refine doneU (by kernel_rfl) ?_ _
  go_wp2
  go_ret
  exact ⟨rfl, HD5.out, HK5.out⟩
set_option maxRecDepth 100000 in
set_option maxHeartbeats 1000000 in
theorem cmt2_any (hJ : Blk W j 68 (jrnC g J v)) (hD : DevC W B g c N m) (hB : B ≤ W.heap.size) (hc : c < 1048576) (hjb : Blk W jb 29 #[.pointer (some ⟨j, 0, none⟩)]) (hab : Blk W ab 3 #[.int .i64 (a : Int)]) (hlb : Blk W lb 43 #[.slice (some ⟨gl, 0, none⟩) (last + 1) k]) (hsb : Blk W sb 3 #[.int .i64 (last : Int)])
    {b : List UInt8} (hn : ls.length = last + 1) (hbl : ls[last]? = some b) (hb64 : b.length = 64) (hA : RowsBlk W (some ⟨gl, 0, none⟩) ls) (ha : a + ls.length ≤ N.length) (hN : N.length ≤ 65536) (hq : m + 1 ≤ 100000) :
    Calls Try.prog 33 #[.pointer (some ⟨jb, 0, none⟩), .pointer (some ⟨ab, 0, none⟩), .pointer (some ⟨sb, 0, none⟩), .pointer (some ⟨lb, 0, none⟩)] W fun e W' => e = .returned (.int .i64 0) ∧ DevC W' B g (c + 1) (wsec N (a + last) [b]) (m + 1) ∧ DKeep B W W' := by
  obtain ⟨ga', gr, cr, e, hcr, hgr, hxr⟩ := rows_at hA hbl
  injection e with e
  injection e with e
  subst e
  rw [hb64] at hcr hxr
  obtain ⟨grr, cur, e, hbg, hcc⟩ := hA (by omega)
  injection e with e
  injection e with e
  subst e
  have hrc : cur[last]? = some (.slice (some ⟨gr, 0, none⟩) 64 cr) := by
    have := (hxr W (Below.refl _ _)).1
    rw [hbg.cell] at this
    exact this
  have HSX : Hid (∀ x, DKeep B W x → (x.cell? ⟨j, 0, none⟩ = some (.pointer (some ⟨g, 0, none⟩)) ∧ x.cell? ⟨j, 1, none⟩ = some (.int .i64 0) ∧ x.cell? ⟨j, 2, none⟩ = some (.int .i64 (J.z : Int))) ∧ x.cell? ⟨jb, 0, none⟩ = some (.pointer (some ⟨j, 0, none⟩)) ∧ x.cell? ⟨ab, 0, none⟩ = some (.int .i64 (a : Int)) ∧ x.cell? ⟨lb, 0, none⟩ = some (.slice (some ⟨gl, 0, none⟩) (last + 1) k) ∧ x.cell? ⟨sb, 0, none⟩ = some (.int .i64 (last : Int)) ∧ x.cell? ⟨gl, last, none⟩ = some (.slice (some ⟨gr, 0, none⟩) 64 cr)) := fun x hx => by
    have h0 := hx.2 _ _ _ hJ (by decide) (by decide) (by decide)
    have h1 := hx.2 _ _ _ hjb (by decide) (by decide) (by decide)
    have h2 := hx.2 _ _ _ hab (by decide) (by decide) (by decide)
    have h3 := hx.2 _ _ _ hlb (by decide) (by decide) (by decide)
    have h4 := hx.2 _ _ _ hsb (by decide) (by decide) (by decide)
    have h5 := hx.2 _ _ _ hbg (by decide) (by decide) (by decide)
    exact ⟨⟨h0.cell 0, h0.cell 1, h0.cell 2⟩, h1.cell 0, h2.cell 0, h3.cell 0, h4.cell 0, (h5.cell last).trans hrc⟩
  have HSVX : Hid (∀ x, Below W.heap.size W x → SecV x (fun _ => True) (.slice (some ⟨gr, 0, none⟩) 64 cr) b) := fun x hx => by
    obtain ⟨gi, ci, cu, k1, k2, k3, k4⟩ := hcc last (by omega)
    have e1 : ls[last] = b := by
      have := List.getElem?_eq_getElem (l := ls) (i := last) (by omega)
      rw [hbl] at this
      exact (Option.some.inj this).symm
    rw [hrc] at k1
    injection k1 with k1
    injection k1 with k1 _ k1c
    injection k1 with k1
    injection k1 with k1
    subst k1
    subst k1c
    rw [e1] at k2 k4
    exact ⟨gr, cr, cu, by rw [hb64], k2, k3.below hx k3.lt, k4, trivial⟩
  have HD := hide hD
  have HWR : Hid (IntKind.i64.wrap ((a : Int) + (last : Int)) = (a : Int) + (last : Int)) := (by rw [IntKind.wrap_i64]; omega : IntKind.i64.wrap ((a : Int) + (last : Int)) = (a : Int) + (last : Int))
  have i1 : (0 : Int) ≤ (last : Int) := by omega
  have i3 : (last : Int) < (last : Int) + 1 := by omega
  clear hJ hjb hab hlb hsb hD hA hbg hcc hrc hxr hbl
  go_enter Try.func33, Try.ntmps33
  go_wp2_with fail
  refine region_U (fun x => (x.cell? ⟨j, 0, none⟩ = some (.pointer (some ⟨g, 0, none⟩)) ∧ x.cell? ⟨j, 1, none⟩ = some (.int .i64 0) ∧ x.cell? ⟨j, 2, none⟩ = some (.int .i64 (J.z : Int))) ∧ x.cell? ⟨jb, 0, none⟩ = some (.pointer (some ⟨j, 0, none⟩)) ∧ x.cell? ⟨ab, 0, none⟩ = some (.int .i64 (a : Int)) ∧ x.cell? ⟨lb, 0, none⟩ = some (.slice (some ⟨gl, 0, none⟩) (last + 1) k) ∧ x.cell? ⟨sb, 0, none⟩ = some (.int .i64 (last : Int)) ∧ x.cell? ⟨gl, last, none⟩ = some (.slice (some ⟨gr, 0, none⟩) 64 cr)) 13 (by kernel_rfl) ?_
  intro Y hY
  have HBY : Hid (Below W.heap.size W Y) := by rw [hY]; exact (Below.refl _ _).drew
  have HSY := hide (HSX.out Y (DKeep.of_below HBY.out hB))
  clear hY
  refine takeV 14 0 (.pointer (some ⟨j, 0, none⟩)) rfl (by kernel_rfl) (fun _ _ _ h => h) (by rfl) (fun x hS => by
    obtain ⟨s0, s1, s2, s3, s4, s5⟩ := hS
    go_simp) HSY.out ?_
  simp only [Act.put, List.getElem_toArray, List.getElem_cons_succ, List.getElem_cons_zero, List.setIfInBounds_toArray, List.set_cons_zero, List.set_cons_succ]
  refine takeV 14 1 (.pointer (some ⟨j, 0, none⟩)) rfl (by kernel_rfl) (fun _ _ _ h => h) (by rfl) (fun x hS => by
    obtain ⟨s0, s1, s2, s3, s4, s5⟩ := hS
    go_simp) HSY.out ?_
  simp only [Act.put, List.getElem_toArray, List.getElem_cons_succ, List.getElem_cons_zero, List.setIfInBounds_toArray, List.set_cons_zero, List.set_cons_succ]
  refine takeV 14 2 (.pointer (some ⟨j, 0, none⟩)) rfl (by kernel_rfl) (fun _ _ _ h => h) (by rfl) (fun x hS => by
    obtain ⟨s0, s1, s2, s3, s4, s5⟩ := hS
    go_simp) HSY.out ?_
  simp only [Act.put, List.getElem_toArray, List.getElem_cons_succ, List.getElem_cons_zero, List.setIfInBounds_toArray, List.set_cons_zero, List.set_cons_succ]
  refine takeV 14 3 (.agg (placeC g J.z)) rfl (by kernel_rfl) (fun _ _ _ h => h) (by rfl) (fun x hS => exec_load 56 (.tmp 7) rfl (load_place x j 0 g J.z hS.1.1 hS.1.2.1 hS.1.2.2) rfl) HSY.out ?_
  simp only [Act.put, List.getElem_toArray, List.getElem_cons_succ, List.getElem_cons_zero, List.setIfInBounds_toArray, List.set_cons_zero, List.set_cons_succ]
  refine takeV 14 4 (.int .i64 (a : Int)) rfl (by kernel_rfl) (fun _ _ _ h => h) (by rfl) (fun x hS => by
    obtain ⟨s0, s1, s2, s3, s4, s5⟩ := hS
    go_simp) HSY.out ?_
  simp only [Act.put, List.getElem_toArray, List.getElem_cons_succ, List.getElem_cons_zero, List.setIfInBounds_toArray, List.set_cons_zero, List.set_cons_succ]
  refine takeV 14 5 (.int .i64 (last : Int)) rfl (by kernel_rfl) (fun _ _ _ h => h) (by rfl) (fun x hS => by
    obtain ⟨s0, s1, s2, s3, s4, s5⟩ := hS
    go_simp) HSY.out ?_
  simp only [Act.put, List.getElem_toArray, List.getElem_cons_succ, List.getElem_cons_zero, List.setIfInBounds_toArray, List.set_cons_zero, List.set_cons_succ]
  refine takeV 14 6 (.int .i64 ((a : Int) + (last : Int))) rfl (by kernel_rfl) (fun _ _ _ h => h) (by rfl) (fun x hS => by
    have hw := HWR.out
    go_simp) HSY.out ?_
  simp only [Act.put, List.getElem_toArray, List.getElem_cons_succ, List.getElem_cons_zero, List.setIfInBounds_toArray, List.set_cons_zero, List.set_cons_succ]
  refine takeV 14 7 (.slice (some ⟨gl, 0, none⟩) (last + 1) k) rfl (by kernel_rfl) (fun _ _ _ h => h) (by rfl) (fun x hS => by
    obtain ⟨s0, s1, s2, s3, s4, s5⟩ := hS
    go_simp) HSY.out ?_
  simp only [Act.put, List.getElem_toArray, List.getElem_cons_succ, List.getElem_cons_zero, List.setIfInBounds_toArray, List.set_cons_zero, List.set_cons_succ]
  refine takeV 14 8 (.int .i64 (last : Int)) rfl (by kernel_rfl) (fun _ _ _ h => h) (by rfl) (fun x hS => by
    obtain ⟨s0, s1, s2, s3, s4, s5⟩ := hS
    go_simp) HSY.out ?_
  simp only [Act.put, List.getElem_toArray, List.getElem_cons_succ, List.getElem_cons_zero, List.setIfInBounds_toArray, List.set_cons_zero, List.set_cons_succ]
  refine takeV 14 9 (.pointer (some ⟨gl, last, none⟩)) rfl (by kernel_rfl) (fun _ _ _ h => h) (by rfl) (fun x hS => by
    obtain ⟨s0, s1, s2, s3, s4, s5⟩ := hS
    go_simp) HSY.out ?_
  simp only [Act.put, List.getElem_toArray, List.getElem_cons_succ, List.getElem_cons_zero, List.setIfInBounds_toArray, List.set_cons_zero, List.set_cons_succ]
  refine takeV 14 10 (.slice (some ⟨gr, 0, none⟩) 64 cr) rfl (by kernel_rfl) (fun _ _ _ h => h) (by rfl) (fun x hS => by
    obtain ⟨s0, s1, s2, s3, s4, s5⟩ := hS
    go_simp) HSY.out ?_
  simp only [Act.put, List.getElem_toArray, List.getElem_cons_succ, List.getElem_cons_zero, List.setIfInBounds_toArray, List.set_cons_zero, List.set_cons_succ]
  refine oneU 11 rfl (by kernel_rfl) (by rfl) ?_
  have HB2 : Hid (Below W.heap.size W (Y.alloc (.cells #[.slice (some ⟨gr, 0, none⟩) 64 cr] 22))) := HBY.out.alloc HBY.out.size _
  have HS2 := hide (HSX.out _ (DKeep.of_below HB2.out hB))
  have HRW := hide (rows_single (HSVX.out Y HBY.out))
  go_wp2_with fail
  refine ⟨(by first | exact fun _ => HS2.out | exact HS2.out), ?_⟩
  try simp only [Act.put, List.getElem_toArray, List.getElem_cons_succ, List.getElem_cons_zero, List.setIfInBounds_toArray, List.set_cons_zero, List.set_cons_succ]
  obtain ⟨y2, hy2⟩ : ∃ y2, Y.alloc (.cells #[.slice (some ⟨gr, 0, none⟩) 64 cr] 22) = y2 := ⟨_, rfl⟩
  rw [hy2] at HB2 HS2 HRW ⊢
  clear hy2
  have HPW := hide (pwrite_any (HD.out.lift HB2.out) (Nat.le_trans hB HB2.out.size) hc J.z (a := a + last) (n := 1) (ls := [b]) rfl (by show a + last + 1 ≤ _; omega) (by show m + 1 ≤ _; omega) (fun s hs => by rw [List.mem_singleton.1 hs]; exact hb64) HRW.out (k := 1))
  refine oneU 12 rfl (by kernel_rfl) (by rfl) ?_
  go_wp2_with fail
  refine (unhide HPW).mono ?_
  rintro e y5 ⟨rfl, hd5, hk5⟩
  have HD5 := hide hd5
  have HK5 : Hid (DKeep B W y5) := (DKeep.of_below HB2.out hB).trans hk5
  have HS5 := hide (HSX.out y5 HK5.out)
  clear hd5 hk5 HPW
  refine ⟨(by first | exact fun _ => HS5.out | exact HS5.out), ?_⟩
  try simp only [Act.put, List.getElem_toArray, List.getElem_cons_succ, List.getElem_cons_zero, List.setIfInBounds_toArray, List.set_cons_zero, List.set_cons_succ]
  refine oneU 13 rfl (by kernel_rfl) (by rfl) ?_
  go_wp2_with fail
  refine doneU (by kernel_rfl) ?_ _
  go_wp2
  go_ret
  exact ⟨rfl, HD5.out, HK5.out⟩
end
end Go.Proofs.Ytogjdfiimflbaaa
