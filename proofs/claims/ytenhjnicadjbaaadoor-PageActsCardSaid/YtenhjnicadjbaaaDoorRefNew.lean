/-
  A new reference device. Condition: as many sectors as there may be.
-/
import Derived.Test.YtenhjnicadjbaaaDoorRefCrash
namespace Go.Proofs.YtenhjnicadjbaaaDoor
open Go Go.RowKit

def newR (n : Nat) : RS := ⟨0, [], List.replicate n zero64, []⟩
theorem all_zero64 (n : Nat) : All64 (List.replicate n zero64) := fun s hs => by rw [List.eq_of_mem_replicate hs]; rfl

theorem take_byts (l : List UInt8) : (byts l).toArray.toList.take l.length = byts l := List.take_of_length_le (by simp [byts])
/-- a sector put behind the safe ones -/
theorem RefIn.push {W W1 W3 : World} {B r g1 c1 : Nat} {sv wv bv v' : Value} {R : RS} {s : List UInt8} {cu : Array Value} {xs : List Value} (h : RefIn W B r sv wv bv R) (hs : s.length = 64) (hlen : R.safe.length + 1 ≤ 65536)
    (hb1 : Below W.heap.size W W1) (hox : W.ownsRow B 23 1 sv R.safe.length xs) (hxx : ∀ (i : Nat) (hi : i < R.safe.length), ∃ gi ci cu, xs[i]? = some (.slice (some ⟨gi, 0, none⟩) R.safe[i].length ci) ∧ R.safe[i].length ≤ ci ∧ Blk W gi 5 cu ∧ cu.toList.take R.safe[i].length = byts R.safe[i])
    (hgrow : W1.grownBy W3 sv.ownBlock) (hown : W3.ownsRow B 23 1 v' (R.safe.length + 1) (xs ++ [.slice (some ⟨g1, 0, none⟩) 64 c1])) (hc : 64 ≤ c1) (hbk : Blk W1 g1 5 cu) (ht : cu.toList.take 64 = byts s) :
    RefIn (W3.setCell ⟨r, 0, none⟩ v') B r v' wv bv { R with safe := R.safe ++ [s] } ∧ RKeep B W (W3.setCell ⟨r, 0, none⟩ v') := by
  obtain ⟨hS1, hS2, hS3, hS4, hS5, hS6, hS7⟩ := h.ok
  have far : ∀ q cs t, Blk W1 q t cs → t ≠ 23 → Blk W3 q t cs := fun q cs t hq hne => hq.grown hgrow (by
    intro e
    rcases hox.2 with ⟨rfl, _⟩ | ⟨g, cap, cur, rfl, _, hb, _⟩
    · simp [Value.ownBlock] at e
    · have : g = q := by simpa [Value.ownBlock] using e.symm
      subst this
      exact Blk.ne_ hq (Blk.below (show Blk W g 23 cur from hb) hb1 (Blk.lt (show Blk W g 23 cur from hb))) hne rfl)
  have hdev3 : Blk W3 r 95 (refCells R sv wv bv) := far _ _ _ (h.dev.below hb1 h.dev.lt) (by decide)
  have far2 : ∀ q cs t, Blk W3 q t cs → t ≠ 95 → Blk (W3.setCell ⟨r, 0, none⟩ v') q t cs := fun q cs t hq hne => hq.far (fun e => Blk.ne_ hq hdev3 hne (by exact e)) _
  have hBW : B ≤ W.heap.size := Nat.le_trans h.br (Nat.le_of_lt h.dev.lt)
  have hk' : TKeep (fun t => t == 95 || t == 23) B W (W3.setCell ⟨r, 0, none⟩ v') := by
    refine ⟨(((hb1.mono hBW).grown hgrow (Nat.le_trans hBW hb1.size) (fun k hk => (World.ownsRow.lt hox k hk).1))).setCell (p := ⟨r, 0, none⟩) h.br _, fun q cs t hq hn => ?_⟩
    simp only [Bool.or_eq_false_iff, beq_eq_false_iff_ne] at hn
    exact far2 _ _ _ (far _ _ _ (hq.below hb1 hq.lt) hn.2) hn.1
  have hk : RKeep B W (W3.setCell ⟨r, 0, none⟩ v') := ⟨hk'.1, fun q cs t hq hn => hk'.2 q cs t hq (by
    unfold refT at hn
    simp only [Bool.or_eq_false_iff] at hn
    simp only [hn.1.1, hn.1.2, Bool.or_self])⟩
  have hset : W3.grownBy (W3.setCell ⟨r, 0, none⟩ v') (some r) := only_setCell (World.grownBy.refl W3 (some r)) (.inl rfl) v'
  refine ⟨⟨⟨fun x hx => ?_, fun e he => ?_, by show (R.safe ++ [s]).length ≤ _; rw [List.length_append]; exact hlen, hS4, hS5, hS6, hS7⟩, h.br, ?_, ?_, ?_, ?_⟩, hk⟩
  · rcases List.mem_append.1 hx with hx | hx
    · exact hS1 x hx
    · rw [List.mem_singleton.1 hx]
      exact hs
  · obtain ⟨h1, h2⟩ := hS2 e he
    exact ⟨by show e.1 < (R.safe ++ [s]).length; rw [List.length_append]; omega, h2⟩
  · exact hdev3.set_ 0 v'
  · refine OutRows.snoc (W := W) (ci := c1) hox (fun i hi => ?_) (by rw [hs]; exact hown.kept hset (.inr (own_blk_ne hown hdev3 (by decide)))) (by rw [hs]; exact hc) (far2 _ _ _ (far _ _ _ hbk (by decide)) (by decide)) (by rw [hs]; exact ht)
    obtain ⟨gi, ci, cu, q1, q2, q3, q4⟩ := hxx i hi
    exact ⟨gi, ci, cu, q1, q2, far2 _ _ _ (far _ _ _ (q3.below hb1 q3.lt) (by decide)) (by decide), q4⟩
  · exact h.wait.keep hk' rfl rfl
  · obtain ⟨A, c, e, hr⟩ := h.bad
    exact ⟨A, c, e, hr.below hk.1⟩

set_option maxRecDepth 100000 in
set_option maxHeartbeats 2000000 in
theorem rnew_any (W : World) (n : Nat) (h2 : n ≤ 65536) :
    Calls Tryd.prog 31 #[.int .i64 (n : Int)] W fun e W' => e = .returned (.pointer (some ⟨W.heap.size, 0, none⟩)) ∧ RefAt W' W.heap.size W.heap.size (newR n) ∧ Below W.heap.size W W' := by
  obtain ⟨i0, hi0, hz0, hz1, hz2⟩ := info_parts info_rws
  have hmk : ∀ W', (Instr.makeSlice 23 (.int .i64 64) (.int .i64 64)).run Tryd.prog W' = .ok (.slice (some ⟨W'.heap.size, 0, none⟩) 64 64) (W'.alloc (.cells (madeCells #[.int .u8 0] 64) 5)) := make8 64 (by omega)
  have HZ := hide (show madeCells #[.int .u8 0] 64 = (byts zero64).toArray from zeros_cells 64)
  go_enter Tryd.func31, Tryd.ntmps31
  go_wp2_with fail
  go_loopw [4] (fun v wr => ∃ i : Nat, i ≤ n ∧ v = .int .i64 i ∧ RefAt wr W.heap.size W.heap.size (newR i) ∧ Below W.heap.size W wr) (fun v _ => n - (intOf v).toNat)
  case atStart =>
    refine ⟨0, Nat.zero_le _, rfl, ⟨.slice none 0 0, .slice none 0 0, .slice none 0 0, ⟨?_, fun e he => absurd he List.not_mem_nil, by decide, by decide, by decide, by decide, by decide⟩, Nat.le_refl _, Blk.new _ _ _, OutRows.nil _ _, ⟨[], World.ownsRow_nil _ _ _ _, fun i hi => absurd hi (by simp [newR])⟩, ⟨none, 0, rfl, Reads.none_⟩⟩, (Below.refl _ _).alloc (Nat.le_refl _) _⟩
    exact all_zero64 0
  case round =>
    obtain ⟨i, hi, rfl, ⟨sv, wv, bv, hd⟩, hbe⟩ := hrel
    have HD := hide hd
    have HBE := hide hbe
    by_cases hlt : i < n
    · have i1 : (0 : Int) ≤ (i : Int) := by omega
      have i2 : (i : Int) < (n : Int) := by omega
      obtain ⟨xs, hox, hxx⟩ := hd.safe
      have HOX := hide hox
      have HXX := hide hxx
      have hsl : (newR i).safe.length = i := List.length_replicate
      have HSL := hide hsl
      have HS3Y : Hid (wr.drew.cell? ⟨W.heap.size, 0, none⟩ = some sv) := hd.cells.1
      have f0 := hd.dev.frozen 0
      have HG := hide hd.dev.lt
      have HNE := hide (own_blk_ne hox hd.dev (by decide))
      clear hd hbe hox hxx hsl
      go_wp2_with fail
      refine region_U (fun x => x.cell? ⟨W.heap.size, 0, none⟩ = some sv) 10 (by kernel_rfl) ?_
      intro Y hY
      subst hY
      have HSY := hide HS3Y.out
      refine takeU 0 (.pointer (some ⟨W.heap.size, 0, none⟩)) rfl (by kernel_rfl) (fun _ _ _ h => h) (by rfl) (fun x hS => by
        obtain s1 := hS
        go_simp) HSY.out ?_
      simp only [Act.put, List.getElem_toArray, List.getElem_cons_succ, List.getElem_cons_zero, List.setIfInBounds_toArray, List.set_cons_zero, List.set_cons_succ]
      refine takeU 1 (.pointer (some ⟨W.heap.size, 0, none⟩)) rfl (by kernel_rfl) (fun _ _ _ h => h) (by rfl) (fun x hS => by
        obtain s1 := hS
        go_simp) HSY.out ?_
      simp only [Act.put, List.getElem_toArray, List.getElem_cons_succ, List.getElem_cons_zero, List.setIfInBounds_toArray, List.set_cons_zero, List.set_cons_succ]
      refine takeU 2 (.pointer (some ⟨W.heap.size, 0, none⟩)) rfl (by kernel_rfl) (fun _ _ _ h => h) (by rfl) (fun x hS => by
        obtain s1 := hS
        go_simp) HSY.out ?_
      simp only [Act.put, List.getElem_toArray, List.getElem_cons_succ, List.getElem_cons_zero, List.setIfInBounds_toArray, List.set_cons_zero, List.set_cons_succ]
      refine takeU 3 (.pointer (some ⟨W.heap.size, 0, none⟩)) rfl (by kernel_rfl) (fun _ _ _ h => h) (by rfl) (fun x hS => by
        obtain s1 := hS
        go_simp) HSY.out ?_
      simp only [Act.put, List.getElem_toArray, List.getElem_cons_succ, List.getElem_cons_zero, List.setIfInBounds_toArray, List.set_cons_zero, List.set_cons_succ]
      refine takeU 4 (sv) rfl (by kernel_rfl) (fun _ _ _ h => h) (by rfl) (fun x hS => by
        obtain s1 := hS
        go_simp) HSY.out ?_
      simp only [Act.put, List.getElem_toArray, List.getElem_cons_succ, List.getElem_cons_zero, List.setIfInBounds_toArray, List.set_cons_zero, List.set_cons_succ]
      refine oneU 5 rfl (by kernel_rfl) (by rfl) ?_
      go_wp2_with fail
      have HB1 : Hid (Below wr.heap.size wr (wr.alloc (.cells (madeCells #[.int .u8 0] 64) 5))) := (Below.refl _ _).alloc (Nat.le_refl _) _
      have HB2 : Hid (Below wr.heap.size wr ((wr.alloc (.cells (madeCells #[.int .u8 0] 64) 5)).alloc (.cells #[.slice (some ⟨wr.heap.size, 0, none⟩) 64 64] 23))) := HB1.out.alloc HB1.out.size _
      have HC2 : Hid (((wr.alloc (.cells (madeCells #[.int .u8 0] 64) 5)).alloc (.cells #[.slice (some ⟨wr.heap.size, 0, none⟩) 64 64] 23)).cell? ⟨wr.heap.size + 1, 0, none⟩ = some (.slice (some ⟨wr.heap.size, 0, none⟩) 64 64)) := cellN (by rw [World.size_alloc]) rfl
      have HBK : Hid (Blk ((wr.alloc (.cells (madeCells #[.int .u8 0] 64) 5)).alloc (.cells #[.slice (some ⟨wr.heap.size, 0, none⟩) 64 64] 23)) wr.heap.size 5 (byts zero64).toArray) := by
        rw [← HZ.out]
        exact (Blk.new _ _ _).alloc _
      have HSZ : Hid (wr.heap.size + 2 = ((wr.alloc (.cells (madeCells #[.int .u8 0] 64) 5)).alloc (.cells #[.slice (some ⟨wr.heap.size, 0, none⟩) 64 64] 23)).heap.size) := (show _ = _ by rw [World.size_alloc, World.size_alloc])
      refine ⟨(HD.out.lift HB1.out).cells.1, ?_⟩
      refine oneU 6 rfl (by kernel_rfl) (by rfl) ?_
      go_wp2_with fail
      refine ⟨(HD.out.lift HB2.out).cells.1, ?_⟩
      generalize (wr.alloc (.cells (madeCells #[.int .u8 0] 64) 5)).alloc (.cells #[.slice (some ⟨wr.heap.size, 0, none⟩) 64 64] 23) = W1 at *
      have HOX1 : Hid (W1.drew.ownsRow W.heap.size 23 1 sv i xs) := by
        have := own_keep HOX.out HB2.out
        rw [HSL.out] at this
        exact this
      refine oneU 7 rfl (by kernel_rfl) (by rfl) (wp_append_any _ (.tmp 16) (.tmp 18) 22 (by rfl) W.heap.size 23 i0 _ 1 24 Tryd.underlying22 hi0 hz0 hz1 hz2 rfl (by omega) sv i xs (by rfl) HOX1.out (wr.heap.size + 2) (some ⟨wr.heap.size + 1, 0, none⟩) 1 1 [.slice (some ⟨wr.heap.size, 0, none⟩) 64 64] (by rfl) (reads_one (by omega) HC2.out) (by simp [Value.oneCell']) (by simp only [maxLen]; omega) (by omega) (Nat.le_trans HBE.out.size HB2.out.size) ?_)
      intro v3 W3 hown3 hg3 hat3
      obtain ⟨g3, c3, rfl, _, _⟩ := hown3.form (by omega)
      obtain ⟨hp1, hp2⟩ := HD.out.push (W1 := W1.drew) (c1 := 64) (s := zero64) rfl (by rw [HSL.out]; omega) HB2.out.drew HOX.out HXX.out hg3 (by rw [HSL.out]; exact hown3) (Nat.le_refl _) HBK.out.drew (take_byts zero64)
      have HP1 : Hid (RefIn (W3.setCell ⟨W.heap.size, 0, none⟩ (.slice (some ⟨g3, 0, none⟩) (i + 1) c3)) W.heap.size W.heap.size (.slice (some ⟨g3, 0, none⟩) (i + 1) c3) wv bv (newR (i + 1))) := by
        have e : (newR (i + 1)) = { newR i with safe := (newR i).safe ++ [zero64] } := by
          unfold newR
          rw [List.replicate_succ']
        rw [e]
        exact hp1
      have HP2 := hide hp2
      have HD3 : Hid (Blk W3 W.heap.size 95 (refCells (newR i) sv wv bv)) := (HD.out.dev.below HB2.out.drew HG.out).grown hg3 HNE.out.symm
      have s3 : W3.cell? ⟨W.heap.size, 0, none⟩ = some sv := HD3.out.cell 0
      have f3 := HD3.out.frozen 0
      refine ⟨fun _ => s3, ?_⟩
      clear hown3 hg3 hat3 hp1 hp2
      simp only [Act.put, List.getElem_toArray, List.getElem_cons_succ, List.getElem_cons_zero, List.setIfInBounds_toArray, List.set_cons_zero, List.set_cons_succ]
      refine oneU 8 rfl (by kernel_rfl) (by rfl) (runU (v := .pointer (some ⟨W.heap.size, 0, none⟩)) (x := W3) (by go_simp) ⟨fun _ => s3, ?_⟩)
      simp only [Act.put, List.getElem_toArray, List.getElem_cons_succ, List.getElem_cons_zero, List.setIfInBounds_toArray, List.set_cons_zero, List.set_cons_succ]
      refine oneU 9 rfl (by kernel_rfl) (by rfl) (runU (v := .pointer (some ⟨W.heap.size, 0, none⟩)) (x := W3) (by go_simp) ⟨fun _ => s3, ?_⟩)
      simp only [Act.put, List.getElem_toArray, List.getElem_cons_succ, List.getElem_cons_zero, List.setIfInBounds_toArray, List.set_cons_zero, List.set_cons_succ]
      refine oneU 10 rfl (by kernel_rfl) (by rfl) ?_
      go_wp2_with fail
      refine doneU (by kernel_rfl) ?_ _
      clear s3 f3
      go_wp2
      go_roundw
      case rel => exact ⟨i + 1, by omega, by go_num, ⟨_, _, _, HP1.out⟩, HBE.out.trans HP2.out.1⟩
      case measure => simp [intOf]; omega
    · obtain rfl : i = n := by omega
      clear hd hbe
      go_wp2
      go_ret
      exact ⟨rfl, ⟨_, _, _, HD.out⟩, HBE.out⟩
end Go.Proofs.YtenhjnicadjbaaaDoor
