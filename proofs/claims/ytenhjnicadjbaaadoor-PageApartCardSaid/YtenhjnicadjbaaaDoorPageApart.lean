/-
  The walk of icehouselaw14.PageApart. Conditions: the arguments read as two integers and two slices of bytes; the table half reads as the text lays it.
-/
import Derived.Test.YtenhjnicadjbaaaDoorPack
namespace Go.Proofs.YtenhjnicadjbaaaDoor
open Go Go.RowKit

theorem str_beq (a b : List UInt8) : ((strOf a).toList == (strOf b).toList) = decide (a = b) := by
  by_cases h : a = b
  · subst h
    simp
  · rw [decide_eq_false h, beq_eq_false_iff_ne]
    exact fun e => h (by simpa [ByteArray.toList_eq, strOf] using e)

set_option maxRecDepth 100000 in
set_option maxHeartbeats 1000000 in
theorem pageApart_yes (t0 t1 : Int) (a b : List UInt8) (A1 A2 : Option Addr) (n1 n2 c1 c2 : Nat) (w : World) (hn1 : n1 = a.length) (hn2 : n2 = b.length) (h1 : a.length ≤ 600) (h2 : b.length ≤ 600) (hc1 : a.length ≤ c1) (hc2 : b.length ≤ c2)
    (hA1 : BytesAt w w.heap.size A1 a) (hA2 : BytesAt w w.heap.size A2 b) (hh : HalfAt w) :
    Calls Tryd.prog 7 #[.agg #[.int .i64 t0, .int .i64 t1], .slice A1 n1 c1, .slice A2 n2 c2] w fun e w' => e = .returned (.bool true) ∧ Below w.heap.size w w' := by
  subst hn1 hn2
  have HA1 := hide hA1
  have HA2 := hide hA2
  have HH := hide hh
  have k1 : decide ((600 : Int) < (a.length : Int)) = false := decide_eq_false (by omega)
  have k2 : decide ((600 : Int) < (b.length : Int)) = false := decide_eq_false (by omega)
  clear hA1 hA2 hh
  go_enter Tryd.func7, Tryd.ntmps7
  go_wp2_with fail
  have hb0 : Below w.heap.size w (w.alloc (.cells #[.int .i64 t0, .int .i64 t1] 40)) := Below.alloc (Below.refl _ _) (Nat.le_refl _) _
  refine (awake14 _ ((unhide HH).below hb0)).mono ?_
  rintro e w1 ⟨rfl, hbe⟩
  have HE := hide (hb0.trans (hbe.mono (by simp)))
  have hbox : Blk w1 w.heap.size 40 #[.int .i64 t0, .int .i64 t1] := (Blk.new w _ _).below hbe (by simp)
  have HBX := hide hbox
  have r0 : w1.cell? ⟨w.heap.size, 0, none⟩ = some (.int .i64 t0) := hbox.cell 0
  clear hbe hb0 hbox
  go_wp2_with fail
  have hR1 := RowsAt.one (w := w1) (t := 23) (f := (0, 0)) (n := a.length) (c := c1) rfl rfl ((unhide HA1).lift HE.out HE.out.size) hc1
  have hE1 := HE.out.alloc HE.out.size (.cells #[.slice A1 a.length c1] 23)
  refine (pack_post t0 [a] _ 1 1 (w1.heap.size + 1) _ rfl (by simp) (by simp; omega) (by simp) hR1 ((unhide HH).below hE1)).mono ?_
  rintro e w2 ⟨P1, m1, d1, code1, rfl, hbe2, hp1⟩
  have hfl1 : [a].flatten = a := by simp
  rw [hfl1] at hp1
  have HE2 := hide (hE1.trans (hbe2.mono hE1.size))
  have HP1 := hide hp1
  have hbx1 : Blk w2 w.heap.size 40 #[.int .i64 t0, .int .i64 t1] := ((unhide HBX).alloc _).below hbe2 (by rw [World.size_alloc]; have := Blk.lt (unhide HBX); omega)
  have HBX1 := hide hbx1
  have r1 : w2.cell? ⟨w.heap.size, 1, none⟩ = some (.int .i64 t1) := hbx1.cell 1
  clear hfl1 hp1 hbe2 hR1 hE1 HE hbx1 HBX
  go_wp2_with fail
  have hR2 := RowsAt.one (w := w2) (t := 23) (f := (0, 0)) (n := b.length) (c := c2) rfl rfl ((unhide HA2).lift HE2.out HE2.out.size) hc2
  have hE3 := HE2.out.alloc HE2.out.size (.cells #[.slice A2 b.length c2] 23)
  refine (pack_post t1 [b] _ 1 1 (w2.heap.size + 1) _ rfl (by simp) (by simp; omega) (by simp) hR2 ((unhide HH).below hE3)).mono ?_
  rintro e w3 ⟨P2, m2, d2, code2, rfl, hbe3, hp2⟩
  have hfl2 : [b].flatten = b := by simp
  rw [hfl2] at hp2
  have HE3 := hide (hE3.trans (hbe3.mono hE3.size))
  have HB3 : Hid (Below w2.heap.size w2 w3) := (Below.alloc (Below.refl _ _) (Nat.le_refl _) _).trans (hbe3.mono (by simp))
  have hbx2 : Blk w3 w.heap.size 40 #[.int .i64 t0, .int .i64 t1] := ((unhide HBX1).alloc _).below hbe3 (by rw [World.size_alloc]; have := Blk.lt (unhide HBX1); omega)
  have r2 : w3.cell? ⟨w.heap.size, 0, none⟩ = some (.int .i64 t0) := hbx2.cell 0
  have r3 : w3.cell? ⟨w.heap.size, 1, none⟩ = some (.int .i64 t1) := hbx2.cell 1
  have hp1 := HP1.out
  clear hfl2 hbe3 hR2 hE3 HE2 hbx2 HBX1 HP1 r0 r1
  rcases hp1 with ⟨hp1, rfl, rfl, hd1, hb1⟩ | ⟨hp1, rfl, rfl, rfl, hcode1⟩
  · rcases hp2 with ⟨hp2, rfl, rfl, hd2, hb2⟩ | ⟨hp2, rfl, rfl, rfl, hcode2⟩
    · have s1 := conv_str _ d1 rfl (hb1.lift HB3.out HB3.out.size)
      have s2 := conv_str _ d2 rfl hb2
      have s3 := conv_str _ c1 rfl ((unhide HA1).lift HE3.out HE3.out.size)
      have s4 := conv_str _ c2 rfl ((unhide HA2).lift HE3.out HE3.out.size)
      obtain ⟨x, hx⟩ : ∃ x, ((strOf (pageL t0.toNat a)).toList == (strOf (pageL t1.toNat b)).toList) = x := ⟨_, rfl⟩
      obtain ⟨y, hy⟩ : ∃ y, (t0 == t1) = y := ⟨_, rfl⟩
      obtain ⟨z, hz⟩ : ∃ z, ((strOf a).toList == (strOf b).toList) = z := ⟨_, rfl⟩
      have hlaw : x = (y && z) := by
        rw [← hx, ← hy, ← hz, str_beq, str_beq]
        unfold packs at hp1 hp2
        simp only [Bool.and_eq_true, decide_eq_true_eq] at hp1 hp2
        rw [Bool.eq_iff_iff]
        simp only [decide_eq_true_eq, Bool.and_eq_true, beq_iff_eq]
        constructor
        · intro h
          obtain ⟨e1, e2⟩ := pageL_inj (by omega) (by omega) hp1.2.2 hp2.2.2 h
          exact ⟨by omega, e2⟩
        · rintro ⟨rfl, rfl⟩
          rfl
      clear hp1 hp2 hb1 hb2 hd1 hd2 HB3
      generalize pageL t0.toNat a = pa at *
      generalize pageL t1.toNat b = pb at *
      cases y <;> cases z
      all_goals
        simp only [Bool.and_true, Bool.and_false] at hlaw
        subst hlaw
        go_wp2
        go_ret
        exact ⟨rfl, HE3.out⟩
    · have x1 : (code2 == 0) = false := by rcases hcode2 with ⟨rfl, _⟩ | ⟨rfl, _⟩ <;> rfl
      have x2 : (code2 != 0) = true := by rcases hcode2 with ⟨rfl, _⟩ | ⟨rfl, _⟩ <;> rfl
      clear hcode2 hp1 hp2 hb1 hd1
      generalize pageL t0.toNat a = pa at *
      go_wp2
      go_ret
      exact ⟨rfl, HE3.out⟩
  · have x3 : (code1 == 0) = false := by rcases hcode1 with ⟨rfl, _⟩ | ⟨rfl, _⟩ <;> rfl
    have x4 : (code1 != 0) = true := by rcases hcode1 with ⟨rfl, _⟩ | ⟨rfl, _⟩ <;> rfl
    rcases hp2 with ⟨hp2, rfl, rfl, hd2, hb2⟩ | ⟨hp2, rfl, rfl, rfl, hcode2⟩
    · clear hcode1 hp1 hp2 hb2 hd2
      generalize pageL t1.toNat b = pb at *
      go_wp2
      go_ret
      exact ⟨rfl, HE3.out⟩
    · have x1 : (code2 == 0) = false := by rcases hcode2 with ⟨rfl, _⟩ | ⟨rfl, _⟩ <;> rfl
      have x2 : (code2 != 0) = true := by rcases hcode2 with ⟨rfl, _⟩ | ⟨rfl, _⟩ <;> rfl
      clear hcode1 hcode2 hp1 hp2
      go_wp2
      go_ret
      exact ⟨rfl, HE3.out⟩

set_option maxRecDepth 100000 in
set_option maxHeartbeats 1000000 in
theorem pageApart_no (t0 t1 : Int) (A1 A2 : Option Addr) (n1 n2 c1 c2 : Nat) (w : World) (hn : 600 < n1 ∨ 600 < n2) (hh : HalfAt w) :
    Calls Tryd.prog 7 #[.agg #[.int .i64 t0, .int .i64 t1], .slice A1 n1 c1, .slice A2 n2 c2] w fun e w' => e = .returned (.bool true) ∧ Below w.heap.size w w' := by
  have HH := hide hh
  clear hh
  obtain ⟨b1, hb1⟩ : ∃ b, decide ((600 : Int) < (n1 : Int)) = b := ⟨_, rfl⟩
  obtain ⟨b2, hb2⟩ : ∃ b, decide ((600 : Int) < (n2 : Int)) = b := ⟨_, rfl⟩
  have hor : (b1 || b2) = true := by
    rw [← hb1, ← hb2]
    simp
    omega
  clear hn
  cases b1 <;> cases b2 <;> first | (exact absurd hor (by decide)) | skip
  all_goals
    clear hor
    go_enter Tryd.func7, Tryd.ntmps7
    go_wp2_with fail
    have hb0 : Below w.heap.size w (w.alloc (.cells #[.int .i64 t0, .int .i64 t1] 40)) := Below.alloc (Below.refl _ _) (Nat.le_refl _) _
    refine (awake14 _ ((unhide HH).below hb0)).mono ?_
    rintro e w1 ⟨rfl, hbe⟩
    have HE := hide (hb0.trans (hbe.mono (by simp)))
    clear hbe hb0
    go_wp2_with fail
    refine (awake14 w1 ((unhide HH).below HE.out)).mono ?_
    rintro e w2 ⟨rfl, hbe2⟩
    have HE2 := hide (HE.out.trans (hbe2.mono HE.out.size))
    clear hbe2
    go_wp2
    go_ret
    exact ⟨rfl, HE2.out⟩
end Go.Proofs.YtenhjnicadjbaaaDoor
