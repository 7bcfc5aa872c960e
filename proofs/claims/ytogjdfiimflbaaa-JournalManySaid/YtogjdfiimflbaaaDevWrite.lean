/-
  The device's Write. Condition: the device lies as its state says; the sectors read as lists of 64 octets.
-/
import Derived.Test.YtogjdfiimflbaaaDevQueue
namespace Go.Proofs.Ytogjdfiimflbaaa
open Go Go.RowKit
attribute [local go_sem ↓] load_wr_at load_sec_at

def writeCode (S : DS) (at_ : Int) (ls : List (List UInt8)) : Int := if thereB S at_ ls.length = true then codeN S else 2
def writeTo (S : DS) (at_ : Int) (ls : List (List UInt8)) : DS := if thereB S at_ ls.length = true then (if codeN S = 0 then writeS (stepN S) at_.toNat ls else stepN S) else S

set_option maxRecDepth 100000 in
set_option maxHeartbeats 2000000 in
theorem write_any (W : World) (B g : Nat) (S : DS) (h : DevAt W B g S) (hn : S.n < 1048576) (hl : -1 ≤ S.left) (at_ : Int) (ls : List (List UInt8)) (A : Option Addr) (n c : Nat) (hn2 : n = ls.length) (hq : S.q.length + ls.length ≤ 1048576) (h64 : All64 ls) (hA : RowsBlk W A ls) :
    Calls Try.prog 38 #[.pointer (some ⟨g, 0, none⟩), .int .i64 at_, .slice A n c] W fun e W' => e = .returned (.int .i64 (writeCode S at_ ls)) ∧ DevAt W' B g (writeTo S at_ ls) ∧ DKeep B W W' := by
  subst hn2
  have HT := hide (fun W' (h' : W' = W) => there_any W' B g S (by rw [h']; exact h) at_ (ls.length : Int) (by omega))
  cases htb : thereB S at_ ls.length with
  | false =>
    have e1 : writeCode S at_ ls = 2 := by unfold writeCode; rw [htb]; rfl
    have e2 : writeTo S at_ ls = S := by unfold writeTo; rw [htb]; rfl
    have HD := hide h
    have HT2 := hide (HT.out W rfl)
    rw [htb] at HT2
    rw [e1, e2]
    clear HT h hA h64 htb e1 e2
    go_enter Try.func38, Try.ntmps38
    go_wp2_with fail
    refine (unhide HT2).mono ?_
    rintro e w' ⟨rfl, rfl⟩
    go_wp2
    go_ret
    exact ⟨rfl, HD.out, DKeep.refl _ _⟩
  | true =>
    have HN := hide (next_any W B g S h hn hl)
    have HCR := hide (containsRows_none ls A ls.length c W.heap.size W rfl (by omega) h64 hA.rows)
    have HT2 := hide (HT.out W rfl)
    rw [htb] at HT2
    have e1 : writeCode S at_ ls = codeN S := by unfold writeCode; rw [htb]; rfl
    by_cases hc0 : codeN S = 0
    · have e2 : writeTo S at_ ls = writeS (stepN S) at_.toNat ls := by unfold writeTo; rw [htb, if_pos hc0]; rfl
      rw [e1, e2, hc0]
      rw [hc0] at HN
      have hth := of_decide_eq_true htb
      obtain ⟨a, rfl⟩ : ∃ a : Nat, at_ = a := ⟨at_.toNat, by omega⟩
      have hlen : S.kept.length ≤ 65536 := h.ok.2.2.2.2.1
      have hal : a + ls.length ≤ S.kept.length := by omega
      rw [Int.toNat_natCast]
      have HRB := hide hA
      have H64 := hide h64
      clear HT h hA h64 htb e1 e2 hc0 hth
      go_enter Try.func38, Try.ntmps38
      go_wp2_with fail
      refine (unhide HT2).mono ?_
      rintro e w' ⟨rfl, rfl⟩
      go_wp2_with fail
      refine (unhide HCR).mono ?_
      rintro e w' ⟨rfl, rfl⟩
      go_wp2_with fail
      refine (unhide HN).mono ?_
      rintro e w1 ⟨rfl, hd, hk⟩
      have HD := hide hd
      have HK := hide hk
      clear hd hk HN HCR HT2
      go_wp2_with fail
      go_loopw [30] (fun i wr => ∃ j : Nat, j ≤ ls.length ∧ i = .int .i64 j ∧ DevAt wr B g (writeS (stepN S) a (ls.take j)) ∧ DKeep B W wr) (fun i _ => ls.length - (intOf i).toNat)
      case atStart => exact ⟨0, Nat.zero_le _, rfl, HD.out, HK.out⟩
      case round =>
        obtain ⟨j, hj, rfl, hd, hk⟩ := hrel
        have HKJ := hide hk
        by_cases hlt : j < ls.length
        · obtain ⟨gr, cur, rfl, hbr, hcr⟩ := (HRB.out.keep hk) (by omega)
          obtain ⟨gi, ci, cu, h1, h2, h3, h4⟩ := hcr j hlt
          have r1 : wr.cell? ⟨gr, j, none⟩ = _ := (hbr.cell j).trans h1
          have hs64 : ls[j].length = 64 := H64.out _ (List.getElem_mem hlt)
          rw [hs64] at r1 h4
          obtain ⟨gk, gn, bv, qv, hin⟩ := hd
          have HIN := hide hin
          clear hcr h1 h2 hk hin
          have HTK := hide (show writeS (stepN S) a (ls.take (j + 1)) = wr1 (writeS (stepN S) a (ls.take j)) (a + j) ls[j] by
            rw [List.take_succ_eq_append_getElem hlt, writeS_snoc, List.length_take, Nat.min_eq_left hj])
          generalize ls[j] = s at *
          have i1 : (0 : Int) ≤ (j : Int) := by omega
          have i2 : (j : Int) < (ls.length : Int) := by omega
          have hat : ∀ W', (Instr.arrayAt 77 (.slice (some ⟨gi, 0, none⟩) 64 ci)).run Try.prog W' = .ok (.pointer (some ⟨gi, 0, none⟩)) W' := fun W' => run_arrayAt (n := 64) (h := Try.underlying77) (hn := Nat.le_refl _) ..
          have hrg : wr.rangeAt gi 0 (byts s) := (fun q v hv => by
            have hq : q < 64 := by have := (List.getElem?_eq_some_iff.1 hv).1; simpa [byts, hs64] using this
            rw [Nat.zero_add, h3.cell, ← Array.getElem?_toList, ← hv, ← h4, List.getElem?_take_of_lt hq])
          have eaj : ((a + j : Nat) : Int) = (a : Int) + (j : Int) := by omega
          have hbl : ∀ W', (Instr.build 79 #[(0, .int .i64 ((a : Int) + (j : Int))), (1, .agg (byts s).toArray)]).run Try.prog W' = .ok (.agg (wcell (a + j, s)).toArray) W' := fun W' => by
            have := build_write (a + j) s hs64 W'
            rw [eaj] at this
            exact this
          have hst := store_wr_new wr (a + j, s) hs64
          have HRG := hide hrg
          have hbl65 := byts_length s
          clear hrg h3 h4 eaj
          have hw65 := wcell_len (a + j, s) hs64
          have hz61 := fun W' => zero_write W'
          have hsc := cells_wr_new wr (a + j, s) hs64
          have HB2 : Hid (Blk (wr.alloc (.cells (wcell (a + j, s)).toArray 79)) wr.heap.size 79 (wcell (a + j, s)).toArray) := Blk.new _ _ _
          have HW2 : Hid (Below wr.heap.size wr (wr.alloc (.cells (wcell (a + j, s)).toArray 79))) := (Below.refl _ _).alloc (Nat.le_refl _) _
          generalize wr.alloc (.cells (wcell (a + j, s)).toArray 79) = W2 at *
          have HIN2 := hide (HIN.out.lift HW2.out)
          obtain ⟨Aq, cq, hqv, hqr⟩ := HIN2.out.queue_form
          have c5 : W2.cell? ⟨g, 5, none⟩ = some (.slice Aq (writeS (stepN S) a (ls.take j)).q.length cq) := by rw [← hqv]; exact HIN2.out.dev.cell 5
          have f5 := HIN2.out.dev.frozen 5
          have rg2 := range_blk HB2.out
          have hslw := fun W' => slice_write (a + j) s hs64 W'
          clear hbl hst hqr
          go_wp2_with (first
            | (with_reducible refine wpList_load_mid rfl 77 (.tmp 39) rfl gi 0 rfl (byts s) _ HRG.out Try.underlying77 rfl (by rw [sec_info, hbl65, hs64]) ?_)
            | (with_reducible refine wpList_build_wr rfl (.tmp 37) (.tmp 40) rfl (a + j) s _ rfl rfl (by omega) hs64 ?_))
          have hu := Try.underlying79
          have hi : (Try.prog.info? 79).map (·.size) = some (wcell (a + j, s)).length := by rw [wr_size, hw65]
          have h1c : ∀ v ∈ wcell (a + j, s), v.oneCell' = true := wcell_one
          clear hat hsc hz61
          have HQ := hide HIN2.out.queue
          have HQL := hide (writeS_kept (ls.take j) (stepN S) a).2.2.2.2.1
          have hq0 : (stepN S).q.length = S.q.length := by unfold stepN; split <;> rfl
          rw [List.length_take, Nat.min_eq_left hj, hq0] at HQL
          subst hqv
          generalize hqn : (writeS (stepN S) a (ls.take j)).q.length = qn at *
          have hqb : qn + 1 ≤ 1048576 := by have := HQL.out; omega
          generalize hqc : qcells (writeS (stepN S) a (ls.take j)).q = qc at *
          have HQN := hide hqn
          have HQC := hide hqc
          clear hqn hqc
          obtain ⟨i0, hi0, hz0, hz1, hz2⟩ := info_parts info_write4
          have hne5 : (Value.slice Aq qn cq).ownBlock ≠ some g := own_blk_ne HQ.out HIN2.out.dev (by decide)
          have hnew := World.new_ne W2 ⟨g, 5, none⟩ c5
          have hBs : B ≤ W2.heap.size := Nat.le_trans HIN2.out.bg (Nat.le_of_lt HIN2.out.dev.lt)
          have HAJ : Hid (a + j < (writeS (stepN S) a (ls.take j)).kept.length) := by
            show a + j < _
            have e : (stepN S).kept = S.kept := by unfold stepN; split <;> rfl
            rw [(writeS_kept (ls.take j) (stepN S) a).1, e]
            omega
          have HSB := hide hBs
          have HGL := hide HIN2.out.dev.lt
          have hneb : (Value.slice Aq qn cq).ownBlock ≠ some wr.heap.size := fun e => by
            have := (World.ownsRow.lt HIN.out.queue _ e).2
            omega
          have hb2 := HB2.out
          have hh2 : hasAt W2 wr.heap.size 0 65 = true := by rw [← hw65]; exact hasAt_of rg2
          have hc2 : cellsAt W2 wr.heap.size 0 65 = wcell (a + j, s) := by rw [← hw65]; exact cellsAt_of rg2
          have HKP := hide (fun (X : World) (hX : Blk X wr.heap.size 79 (wcell (a + j, s)).toArray) => (show hasAt X wr.heap.size 0 65 = true ∧ cellsAt X wr.heap.size 0 65 = wcell (a + j, s) from ⟨by rw [← hw65]; exact hasAt_of (range_blk hX), by rw [← hw65]; exact cellsAt_of (range_blk hX)⟩))
          refine wp_region_held (S := fun _ => True) (by kernel_rfl) ?_
          refine wpAnyH_take (i := 0) (v := (.pointer (some ⟨g, 0, none⟩))) rfl (by kernel_rfl) (by kernel_rfl) (by kernel_rfl) (fun _ _ _ h => h) (Or.inl ⟨by rfl, fun w _ => by go_simp⟩) trivial ?_
          simp only [Act.put, List.setIfInBounds_toArray, List.set_cons_zero, List.set_cons_succ]
          refine wpAnyH_take (i := 1) (v := (.pointer (some ⟨g, 0, none⟩))) rfl (by kernel_rfl) (by kernel_rfl) (by kernel_rfl) (fun _ _ _ h => h) (Or.inl ⟨by rfl, fun w _ => by go_simp⟩) trivial ?_
          simp only [Act.put, List.setIfInBounds_toArray, List.set_cons_zero, List.set_cons_succ]
          refine wpAnyH_take (i := 2) (v := (.pointer (some ⟨g, 0, none⟩))) rfl (by kernel_rfl) (by kernel_rfl) (by kernel_rfl) (fun _ _ _ h => h) (Or.inl ⟨by rfl, fun w _ => by go_simp⟩) trivial ?_
          simp only [Act.put, List.setIfInBounds_toArray, List.set_cons_zero, List.set_cons_succ]
          refine wpAnyH_take (i := 3) (v := (.pointer (some ⟨g, 5, none⟩))) rfl (by kernel_rfl) (by kernel_rfl) (by kernel_rfl) (fun _ _ _ h => h) (Or.inl ⟨by rfl, fun w _ => by go_simp⟩) trivial ?_
          simp only [Act.put, List.setIfInBounds_toArray, List.set_cons_zero, List.set_cons_succ]
          refine anyT_two 4 5 (by kernel_rfl) rfl rfl (by rfl) (by rfl) ?_ ?_
          focus
            go_wp2_with fail
            refine anyT_one 5 (by kernel_rfl) rfl (by rfl) (wp_load_mid _ _ rfl wr.heap.size 0 rfl (wcell (a + j, s)) _ rg2 hu rfl hi ?_)
            simp only [Act.put, List.getElem_toArray, List.getElem_cons_succ, List.getElem_cons_zero, List.setIfInBounds_toArray, List.set_cons_zero, List.set_cons_succ]
            refine anyT_one 6 (by kernel_rfl) rfl (by rfl) (wp_slice_wr _ rfl (a + j) s rfl hs64 ?_)
            simp only [Act.put, List.getElem_toArray, List.getElem_cons_succ, List.getElem_cons_zero, List.setIfInBounds_toArray, List.set_cons_zero, List.set_cons_succ]
          rotate_left
          focus
            refine (wp_load_mid _ _ rfl wr.heap.size 0 rfl (wcell (a + j, s)) _ rg2 hu rfl hi ?_)
            simp only [Act.put, List.getElem_toArray, List.getElem_cons_succ, List.getElem_cons_zero, List.setIfInBounds_toArray, List.set_cons_zero, List.set_cons_succ]
            refine anyT_two 4 6 (by kernel_rfl) rfl rfl (by rfl) (by rfl) ?_ ?_
            focus
              go_wp2_with fail
              refine anyT_one 6 (by kernel_rfl) rfl (by rfl) (wp_slice_wr _ rfl (a + j) s rfl hs64 ?_)
              simp only [Act.put, List.getElem_toArray, List.getElem_cons_succ, List.getElem_cons_zero, List.setIfInBounds_toArray, List.set_cons_zero, List.set_cons_succ]
            rotate_left
            focus
              refine (wp_slice_wr _ rfl (a + j) s rfl hs64 ?_)
              simp only [Act.put, List.getElem_toArray, List.getElem_cons_succ, List.getElem_cons_zero, List.setIfInBounds_toArray, List.set_cons_zero, List.set_cons_succ]
              have c5a := cellO (o := .cells (wcell (a + j, s)).toArray 79) c5
              refine anyT_one 4 (by kernel_rfl) rfl (by rfl) ?_
              go_wp2_with fail
          all_goals
            refine anyT_one 7 (by kernel_rfl) rfl (by rfl) (wp_append_lies _ (.tmp 46) (.tmp 48) 52 rfl B 79 i0 _ 65 72 Try.underlying52 hi0 hz0 hz1 hz2 writeZero_size (by omega) (.slice Aq qn cq) qn qc rfl (HQ.out.alloc _)
              ⟨W2.heap.size, 0, none⟩ 1 1 (wcell (a + j, s)) rfl (by rw [hw65]) (World.news_of_block (cs := (wcell (a + j, s)).toArray) (t := 79) (fr := (0, 0)) (heap_alloc_new _ _)) wcell_one (by omega) (by simp only [maxLen]; omega) (by omega) (Nat.le_trans HSB.out (by show W2.heap.size ≤ (W2.alloc _).heap.size; rw [World.size_alloc]; exact Nat.le_succ _)) (W2.heap.size + 1) (by simp) ?_)
            intro gg cap w3 hown3 hgrow hat3 hlt3
            simp only [Act.put, List.getElem_toArray, List.getElem_cons_succ, List.getElem_cons_zero, List.setIfInBounds_toArray, List.set_cons_zero, List.set_cons_succ]
            replace hgrow : (W2.drew.alloc (.cells (wcell (a + j, s)).toArray 79)).grownBy w3 (Value.slice Aq qn cq).ownBlock := hgrow
            have c53 : w3.cell? ⟨g, 5, none⟩ = some (.slice Aq qn cq) := (hgrow.cell_far _ (Nat.lt_of_lt_of_le HGL.out (by simp)) (Ne.symm hne5)).trans (cellO c5)
            have f53 : w3.frozen? ⟨g, 5, none⟩ = false := (hgrow.frozen_far _ (Nat.lt_of_lt_of_le HGL.out (by simp)) (Ne.symm hne5)).trans (frozO c5 f5)
            refine wpAnyH_take (i := 8) (v := (.pointer (some ⟨g, 0, none⟩))) rfl (by kernel_rfl) (by kernel_rfl) (by kernel_rfl) (fun _ _ _ h => h) (Or.inl ⟨by rfl, fun w _ => by go_simp⟩) trivial ?_
            simp only [Act.put, List.setIfInBounds_toArray, List.set_cons_zero, List.set_cons_succ]
            refine wpAnyH_take (i := 9) (v := (.pointer (some ⟨g, 5, none⟩))) rfl (by kernel_rfl) (by kernel_rfl) (by kernel_rfl) (fun _ _ _ h => h) (Or.inl ⟨by rfl, fun w _ => by go_simp⟩) trivial ?_
            simp only [Act.put, List.setIfInBounds_toArray, List.set_cons_zero, List.set_cons_succ]
            refine anyT_one 10 (by kernel_rfl) rfl (by rfl) ?_
            go_wp2_with fail
            refine wpAnyH_done (by kernel_rfl) ?_ _
            obtain ⟨hin5, hk5⟩ := (HIN2.out.lift (Below.refl _ _).drew).enqueue (e := (a + j, s)) ⟨HAJ.out, hs64⟩ (by rw [HQN.out]; exact hqb) hgrow (by rw [HQN.out, HQC.out]; exact hown3)
            have hb5 : Blk (w3.setCell ⟨g, 5, none⟩ (.slice (some ⟨gg, 0, none⟩) (qn + 1) cap)) wr.heap.size 79 (wcell (a + j, s)).toArray :=
              ((HB2.out.drew.alloc _).grown hgrow (Ne.symm hneb)).far (fun e => by
                have := HIN.out.dev.lt
                have e' : wr.heap.size = g := e
                omega) _
            have HK2 : Hid (DKeep B W (w3.setCell ⟨g, 5, none⟩ (.slice (some ⟨gg, 0, none⟩) (qn + 1) cap))) := (HKJ.out.trans ((DKeep.of_below HW2.out (Nat.le_trans HIN.out.bg (Nat.le_of_lt HIN.out.dev.lt))).trans ((DKeep.of_below ((Below.refl _ _).drew) HSB.out).trans hk5)))
            have HIN5 := hide hin5
            have HB5 := hide hb5
            clear hin5 hk5 hb5 c53 f53 hown3 hgrow hat3 hlt3 hb2 hh2 hc2 hneb hnew hne5 rg2 c5 f5 hslw
            go_wp2_with fail
            refine region_tail 9 (by kernel_rfl) (by kernel_rfl) ?_
            intro Y hY
            have HK6 : Hid (DKeep B W Y) := by
              rw [hY]
              exact HK2.out.trans (DKeep.of_below (Below.refl _ _).drew (Nat.le_trans HIN5.out.bg (Nat.le_of_lt HIN5.out.dev.lt)))
            have HIN6 : Hid (DevIn Y B g gk gn bv (.slice (some ⟨gg, 0, none⟩) (qn + 1) cap) { writeS (stepN S) a (ls.take j) with q := (writeS (stepN S) a (ls.take j)).q ++ [(a + j, s)] }) := by
              rw [hY]
              exact HIN5.out.lift (Below.refl _ _).drew
            have hb6 : Blk Y wr.heap.size 79 (wcell (a + j, s)).toArray := by
              rw [hY]
              exact HB5.out.drew
            clear hY HIN5 HB5 HK2
            have k4 : Y.cell? ⟨g, 4, none⟩ = some (.slice (some ⟨gn, 0, none⟩) (writeS (stepN S) a (ls.take j)).kept.length (writeS (stepN S) a (ls.take j)).kept.length) := HIN6.out.dev.cell 4
            have k5 : Y.cell? ⟨wr.heap.size, 0, none⟩ = some (.int .i64 ((a : Int) + (j : Int))) := by
              have := hb6.cell 0
              simpa [wcell] using this
            have krg : Y.rangeAt wr.heap.size 1 (byts s) := fun q v hv => by
              rw [hb6.cell]
              simpa [wcell, Nat.add_comm 1 q] using hv
            have hal2 : a + j < (writeS (stepN S) a (ls.take j)).kept.length := HAJ.out
            have hlm : (writeS (stepN S) a (ls.take j)).kept.length ≤ 65536 := HIN6.out.ok.2.2.2.2.1
            have KRG := hide krg
            have HSN := hide (HIN6.out.setNow (i := a + j) (s := s) HAJ.out hs64)
            have HST := hide (store_sec Y gn (64 * (a + j)) _ _ s hs64 HIN6.out.now (by
              have h1 := HIN6.out.ok.2.2.1
              have h2 := HIN6.out.ok.1
              rw [List.size_toArray, byts_length, flat64_len _ h1]
              have h3 : a + j < _ := hal2
              rw [← h2] at h3
              omega))
            clear krg hb6
            generalize (writeS (stepN S) a (ls.take j)).kept.length = len at *
            have z1 : (0 : Int) ≤ (a : Int) + (j : Int) := by omega
            have z2 : (a : Int) + (j : Int) < (len : Int) := by omega
            simp only [List.take_succ_cons, List.take_zero, List.drop_succ_cons, List.drop_zero]
            still_step
            still_step
            still_step
            still_step
            still_step
            still_step
            still_step
            refine wpStill_load rfl 77 (.tmp 58) rfl rfl (load_sec Y wr.heap.size 1 s hs64 KRG.out) ?_
            simp only [Act.put, List.setIfInBounds_toArray, List.set_cons_zero, List.set_cons_succ]
            still_step
            refine wpStill_nil ?_
            refine wpList_store_run rfl 77 (.tmp 60) (.tmp 59) rfl (show _ = Value.pointer (some ⟨gn, 64 * (a + j), none⟩) from by
              first
              | rfl
              | (show Value.pointer (some ⟨gn, (a + j) * 64, none⟩) = _
                 rw [Nat.mul_comm])) rfl HST.out ?_
            obtain ⟨hin7, hk7⟩ := HSN.out _ rfl
            generalize Y.setRow _ _ = Z at *
            have HIN7 := hide hin7
            have HK7 := hide (HK6.out.trans hk7)
            clear hin7 hk7 HSN HST HIN6 HK6 k4 k5 z1 z2 hal2 hlm
            simp only [Act.put]
            go_wp2
            go_roundw
            case rel =>
              refine ⟨j + 1, by omega, by go_num, ?_, HK7.out⟩
              rw [HTK.out]
              exact ⟨gk, gn, bv, _, HIN7.out⟩
            case measure => simp [intOf]; omega
        · obtain rfl : j = ls.length := by omega
          rw [List.take_length] at hd
          have HDJ := hide hd
          clear hd hk
          go_wp2
          go_ret
          exact ⟨rfl, HDJ.out, HKJ.out⟩
    · have e2 : writeTo S at_ ls = stepN S := by unfold writeTo; rw [htb, if_neg hc0]; rfl
      have hne : (codeN S != 0) = true := by simpa using hc0
      rw [e1, e2]
      clear HT h hA h64 htb e1 e2 hc0
      generalize codeN S = cd at *
      go_enter Try.func38, Try.ntmps38
      go_wp2_with fail
      refine (unhide HT2).mono ?_
      rintro e w' ⟨rfl, rfl⟩
      go_wp2_with fail
      refine (unhide HCR).mono ?_
      rintro e w' ⟨rfl, rfl⟩
      go_wp2_with fail
      refine (unhide HN).mono ?_
      rintro e w1 ⟨rfl, hd, hk⟩
      have HD := hide hd
      have HK := hide hk
      clear hd hk
      go_wp2
      go_ret
      exact ⟨rfl, HD.out, HK.out⟩
end Go.Proofs.Ytogjdfiimflbaaa
