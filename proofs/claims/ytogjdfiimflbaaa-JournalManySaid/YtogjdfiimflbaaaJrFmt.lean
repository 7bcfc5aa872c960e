/-
  The walks of journal's Format and of its closures. Conditions: a device that no call fails, and room.
-/
import Derived.Test.YtogjdfiimflbaaaJrRec
namespace Go.Proofs.Ytogjdfiimflbaaa
open Go Go.RowKit

theorem place_info : (Try.prog.info? 56).map (·.size) = some 3 := by kernel_rfl
theorem place_desc : ∃ fs, Try.prog.underlying 56 = some (.struct fs) := ⟨_, Try.underlying56⟩
theorem load_place (W : World) (g o d n : Nat) (h0 : W.cell? ⟨g, o, none⟩ = some (.pointer (some ⟨d, 0, none⟩))) (h1 : W.cell? ⟨g, o + 1, none⟩ = some (.int .i64 0)) (h2 : W.cell? ⟨g, o + 2, none⟩ = some (.int .i64 (n : Int))) : (Instr.loadAt 56 (.pointer (some ⟨g, o, none⟩))).run Try.prog W = .ok (.agg (placeC d n)) W := by
  obtain ⟨fs, he⟩ := place_desc
  exact run_loadAt_ad W ⟨g, o, none⟩ _ [.pointer (some ⟨d, 0, none⟩), .int .i64 0, .int .i64 (n : Int)] _ (fun j v hv => by
    rw [add_flat]
    match j, hv with
    | 0, hv => exact h0.trans hv
    | 1, hv => exact h1.trans hv
    | 2, hv => exact h2.trans hv
    | j + 3, hv => simp at hv) he rfl (by rw [place_info]; rfl)
theorem load_place_blk {W : World} {g d n : Nat} {t : TypeId} (hb : Blk W g t (placeC d n)) : (Instr.loadAt 56 (.pointer (some ⟨g, 0, none⟩))).run Try.prog W = .ok (.agg (placeC d n)) W :=
  load_place W g 0 d n (hb.cell 0) (hb.cell 1) (hb.cell 2)

section
variable {W : World} {B g c m n : Nat} {N : List (List UInt8)}
set_option maxRecDepth 100000 in
set_option maxHeartbeats 400000 in
theorem fmt1_any (h : DevC W B g c N m) (hB : B ≤ W.heap.size) (hc : c < 1048576) {qp ql k z : Nat} {ls : List (List UInt8)} {A : Option Addr} (hp : Blk W qp 56 (placeC g z)) (hl : Blk W ql 43 #[.slice A n k]) (hn : n = ls.length) (ha : ls.length ≤ N.length) (hq : m + ls.length ≤ 1048576) (h64 : All64 ls) (hA : RowsBlk W A ls) :
    Calls Try.prog 16 #[.pointer (some ⟨qp, 0, none⟩), .pointer (some ⟨ql, 0, none⟩)] W fun e W' => e = .returned (.int .i64 0) ∧ DevC W' B g (c + 1) (wsec N 0 ls) (m + ls.length) ∧ DKeep B W W' := by
  have HW := hide (pwrite_any h hB hc z (a := 0) hn (by omega) hq h64 hA (k := k))
  have HLD := hide (load_place_blk hp)
  have r0 : W.cell? ⟨qp, 0, none⟩ = some (.pointer (some ⟨g, 0, none⟩)) := hp.cell 0
  have r1 : W.cell? ⟨qp, 1, none⟩ = some (.int .i64 0) := hp.cell 1
  have r2 : W.cell? ⟨qp, 2, none⟩ = some (.int .i64 (z : Int)) := hp.cell 2
  have r3 : W.cell? ⟨ql, 0, none⟩ = some (.slice A n k) := hl.cell 0
  rw [show (((0 : Nat) : Int)) = 0 from rfl] at HW
  clear h hp hl hA h64 hc ha hq hn hB HLD
  go_enter Try.func16, Try.ntmps16
  go_wp2_with fail
  refine (unhide HW).mono ?_
  rintro e w' ⟨rfl, hd, hk⟩
  have HD := hide hd
  have HK := hide hk
  clear hd hk HW
  go_wp2
  go_ret
  exact ⟨rfl, HD.out, HK.out⟩

theorem markL_len (n f a : Nat) : (markL n f a).length = 64 := by
  unfold markL
  rw [List.length_append, List.length_take, beL_len, padL_len (by rw [List.length_append, List.length_append, List.length_append, beL_len, beL_len, beL_len]; decide)]
  rfl
theorem sec_of_own {W : World} {base : Nat} {v : Value} {b : List UInt8} (h : W.ownsRow base 5 1 v 64 (byts b)) (hb : b.length = 64) : SecV W (fun q => base ≤ q ∧ v.ownBlock = some q) v b := SecV.of_own (by rw [hb]; exact h) (by omega)
/-- one slice in a new row -/
theorem rows_single {W : World} {D : Nat → Prop} {v : Value} {b : List UInt8} (h : SecV W D v b) : RowsBlk (W.alloc (.cells #[v] 22)) (some ⟨W.heap.size, 0, none⟩) [b] := by
  obtain ⟨A, c, e, hr⟩ := rows_of_own (World.ownsRow_lit (base := 0) (e := 22) (size := 1) W #[v] 1 (Nat.zero_le _) (by decide) rfl) ((SecVs.nil.snoc h).below ((Below.refl W.heap.size W).alloc (Nat.le_refl _) (.cells #[v] 22)))
  injection e with e1 e2 e3
  rw [e1]
  exact hr
set_option maxRecDepth 100000 in
set_option maxHeartbeats 1000000 in
theorem fmt2_any (h : DevC W B g c N m) (hB : B ≤ W.heap.size) (hc : c < 1048576) {qp : Nat} (hp : Blk W qp 56 (placeC g n)) (ha : 2 ≤ N.length) (hq : m + 1 ≤ 1048576) :
    Calls Try.prog 18 #[.pointer (some ⟨qp, 0, none⟩)] W fun e W' => e = .returned (.int .i64 0) ∧ DevC W' B g (c + 1) (wsec N 1 [markL 1 1 2]) (m + 1) ∧ DKeep B W W' := by
  have HSX : Hid (∀ x, Below W.heap.size W x → x.cell? ⟨qp, 0, none⟩ = some (.pointer (some ⟨g, 0, none⟩)) ∧ x.cell? ⟨qp, 1, none⟩ = some (.int .i64 0) ∧ x.cell? ⟨qp, 2, none⟩ = some (.int .i64 (n : Int))) := fun x hx => have hb := hp.below hx hp.lt; ⟨hb.cell 0, hb.cell 1, hb.cell 2⟩
  have HDV := hide h
  clear h
  go_enter Try.func18, Try.ntmps18
  go_wp2_with fail
  refine region_U (fun x => x.cell? ⟨qp, 0, none⟩ = some (.pointer (some ⟨g, 0, none⟩)) ∧ x.cell? ⟨qp, 1, none⟩ = some (.int .i64 0) ∧ x.cell? ⟨qp, 2, none⟩ = some (.int .i64 (n : Int))) 5 (by kernel_rfl) ?_
  intro Y hY
  have HBY : Hid (Below W.heap.size W Y) := by rw [hY]; exact (Below.refl _ _).drew
  have HSY := hide (HSX.out Y HBY.out)
  clear hY
  refine takeV 6 0 (.agg (placeC g n)) rfl (by kernel_rfl) (fun _ _ _ h => h) (by rfl) (fun x hS => exec_load 56 (.tmp 0) rfl (load_place x qp 0 g n hS.1 hS.2.1 hS.2.2) rfl) HSY.out ?_
  simp only [Act.put, List.getElem_toArray, List.getElem_cons_succ, List.getElem_cons_zero, List.setIfInBounds_toArray, List.set_cons_zero, List.set_cons_succ]
  refine takeV 6 1 (.agg #[.int .i64 1, .int .i64 1, .int .i64 2]) rfl (by kernel_rfl) (fun _ _ _ h => h) (by rfl) (fun x hS => by
    obtain ⟨s1, s2, s3⟩ := hS
    go_simp) HSY.out ?_
  simp only [Act.put, List.getElem_toArray, List.getElem_cons_succ, List.getElem_cons_zero, List.setIfInBounds_toArray, List.set_cons_zero, List.set_cons_succ]
  refine oneU 2 rfl (by kernel_rfl) (by rfl) ?_
  go_wp2_with fail
  refine (sector_any 1 1 2 Y (by omega) (by omega) (by omega)).mono ?_
  rintro e y1 ⟨v1, rfl, ho1, hb1⟩
  have HB1 : Hid (Below W.heap.size W y1) := HBY.out.trans (hb1.mono HBY.out.size)
  have HS1 := hide (HSX.out y1 HB1.out)
  obtain ⟨g1, c1, e1, _, _⟩ := ho1.form (by omega)
  subst e1
  have HSV := hide (sec_of_own ho1 (markL_len 1 1 2))
  clear ho1 hb1
  refine ⟨(by first | exact fun _ => HS1.out | exact HS1.out), ?_⟩
  try simp only [Act.put, List.getElem_toArray, List.getElem_cons_succ, List.getElem_cons_zero, List.setIfInBounds_toArray, List.set_cons_zero, List.set_cons_succ]
  refine oneU 3 rfl (by kernel_rfl) (by rfl) ?_
  have HB2 : Hid (Below W.heap.size W (y1.alloc (.cells #[.slice (some ⟨g1, 0, none⟩) 64 c1] 22))) := HB1.out.alloc HB1.out.size _
  have HS2 := hide (HSX.out _ HB2.out)
  have HRW := hide (rows_single HSV.out)
  go_wp2_with fail
  refine ⟨(by first | exact fun _ => HS2.out | exact HS2.out), ?_⟩
  try simp only [Act.put, List.getElem_toArray, List.getElem_cons_succ, List.getElem_cons_zero, List.setIfInBounds_toArray, List.set_cons_zero, List.set_cons_succ]
  obtain ⟨y2, hy2⟩ : ∃ y2, y1.alloc (.cells #[.slice (some ⟨g1, 0, none⟩) 64 c1] 22) = y2 := ⟨_, rfl⟩
  rw [hy2] at HB2 HS2 HRW ⊢
  clear hy2
  have HPW := hide (pwrite_any (HDV.out.lift HB2.out) (Nat.le_trans hB HB2.out.size) hc n (a := 1) (n := 1) (ls := [markL 1 1 2]) rfl ha hq (fun s hs => by rw [List.mem_singleton.1 hs]; exact markL_len 1 1 2) HRW.out (k := 1))
  refine oneU 4 rfl (by kernel_rfl) (by rfl) ?_
  go_wp2_with fail
  refine (unhide HPW).mono ?_
  rintro e y3 ⟨rfl, hd3, hk3⟩
  have HD3 := hide hd3
  have HK3 : Hid (DKeep B W y3) := (DKeep.of_below HB2.out hB).trans hk3
  have HS3 : Hid (y3.cell? ⟨qp, 0, none⟩ = some (.pointer (some ⟨g, 0, none⟩)) ∧ y3.cell? ⟨qp, 1, none⟩ = some (.int .i64 0) ∧ y3.cell? ⟨qp, 2, none⟩ = some (.int .i64 (n : Int))) := have hb := HK3.out.2 _ _ _ hp (by decide) (by decide) (by decide); ⟨hb.cell 0, hb.cell 1, hb.cell 2⟩
  clear hd3 hk3 HPW
  refine ⟨(by first | exact fun _ => HS3.out | exact HS3.out), ?_⟩
  try simp only [Act.put, List.getElem_toArray, List.getElem_cons_succ, List.getElem_cons_zero, List.setIfInBounds_toArray, List.set_cons_zero, List.set_cons_succ]
  refine oneU 5 rfl (by kernel_rfl) (by rfl) ?_
  go_wp2_with fail
  refine doneU (by kernel_rfl) ?_ _
  go_wp2
  go_ret
  exact ⟨rfl, HD3.out, HK3.out⟩
end
end Go.Proofs.Ytogjdfiimflbaaa
