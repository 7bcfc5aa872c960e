/-
  The device's settle and Flush: the kept state becomes the present one where a write waits. Condition: the device lies as its state says.
-/
import Derived.Test.YtogjdfiimflbaaaDevQueue
namespace Go.Proofs.Ytogjdfiimflbaaa
open Go Go.RowKit

def settleK (K N : List (List UInt8)) : List (Nat × List UInt8) → List (List UInt8)
  | [] => K
  | e :: r => settleK (K.set e.1 (N.getD e.1 [])) N r
theorem settleK_snoc (N : List (List UInt8)) (e : Nat × List UInt8) : ∀ (l : List (Nat × List UInt8)) (K : List (List UInt8)), settleK K N (l ++ [e]) = (settleK K N l).set e.1 (N.getD e.1 [])
  | [], _ => rfl
  | x :: r, K => settleK_snoc N e r (K.set x.1 (N.getD x.1 []))
theorem settleK_len (N : List (List UInt8)) : ∀ (l : List (Nat × List UInt8)) (K : List (List UInt8)), (settleK K N l).length = K.length
  | [], _ => rfl
  | x :: r, K => by rw [settleK, settleK_len N r, List.length_set]
def settleS (S : DS) : DS := { S with kept := settleK S.kept S.now S.q, q := [] }

theorem qcells_len : ∀ (q : List (Nat × List UInt8)), (∀ e ∈ q, e.2.length = 64) → (qcells q).length = 65 * q.length
  | [], _ => rfl
  | e :: r, h => by
    have := qcells_len r (fun x hx => h x (List.mem_cons_of_mem _ hx))
    have h1 := wcell_len e (h e List.mem_cons_self)
    rw [qcells, List.map_cons, List.flatten_cons, List.length_append, h1]
    rw [qcells] at this
    rw [this, List.length_cons]
    omega
theorem qcells_get : ∀ (q : List (Nat × List UInt8)) (k : Nat) (e : Nat × List UInt8), (∀ e ∈ q, e.2.length = 64) → q[k]? = some e → ((qcells q).drop (65 * k)).take 65 = wcell e
  | [], k, e, _, hk => by simp at hk
  | x :: r, 0, e, h, hk => by
    simp only [List.getElem?_cons_zero, Option.some.injEq] at hk
    subst hk
    have h1 := wcell_len x (h x List.mem_cons_self)
    rw [Nat.mul_zero, List.drop_zero, qcells, List.map_cons, List.flatten_cons, List.take_append_of_le_length (by omega), List.take_of_length_le (by omega)]
  | x :: r, k + 1, e, h, hk => by
    have h1 := wcell_len x (h x List.mem_cons_self)
    have ih := qcells_get r k e (fun y hy => h y (List.mem_cons_of_mem _ hy)) (by simpa using hk)
    rw [qcells, List.map_cons, List.flatten_cons, List.drop_append, List.drop_of_length_le (by omega), List.nil_append, show 65 * (k + 1) - (wcell x).length = 65 * k by omega]
    exact ih

/-- one waiting write, in the queue's row -/
theorem DevIn.queue_range {W : World} {B g gk gn gq n c : Nat} {bv : Value} {S : DS} (h : DevIn W B g gk gn bv (.slice (some ⟨gq, 0, none⟩) n c) S) {k : Nat} (hk : k < S.q.length) :
    W.rangeAt gq (k * 65) (wcell S.q[k]) := by
  rw [Nat.mul_comm k 65]
  have h64 : ∀ e ∈ S.q, e.2.length = 64 := fun e he => (h.ok.2.2.2.1 e he).2
  have hg := qcells_get S.q k S.q[k] h64 (List.getElem?_eq_getElem hk)
  intro j v hv
  have hj : j < 65 := by
    have := (List.getElem?_eq_some_iff.1 hv).1
    rwa [wcell_len _ (h64 _ (List.getElem_mem hk))] at this
  have key := h.queue.cells (g := gq) rfl (65 * k + j) v
  rw [add_flat, Nat.zero_add] at key
  refine key ?_
  rw [← hg, List.getElem?_take_of_lt hj, List.getElem?_drop] at hv
  exact hv
theorem secs_range {W : World} {b : Nat} {K : List (List UInt8)} (hb : Blk W b 77 (byts K.flatten).toArray) (h64 : All64 K) {i : Nat} (hi : i < K.length) : W.rangeAt b (i * 64) (byts K[i]) := by
  rw [Nat.mul_comm i 64]
  have hg := flat64_get K i K[i] h64 (List.getElem?_eq_getElem hi)
  intro j v hv
  have hj : j < 64 := by
    have := (List.getElem?_eq_some_iff.1 hv).1
    rwa [byts_length, h64 _ (List.getElem_mem hi)] at this
  rw [hb.cell, List.getElem?_toArray, byts, List.getElem?_map]
  rw [byts, List.getElem?_map] at hv
  rw [← hg, List.getElem?_take_of_lt hj, List.getElem?_drop] at hv
  exact hv

/-- the queue let go -/
theorem DevIn.clearQ {W : World} {B g gk gn : Nat} {bv qv : Value} {S : DS} (h : DevIn W B g gk gn bv qv S) :
    DevIn (W.setCell ⟨g, 5, none⟩ (.slice none 0 0)) B g gk gn bv (.slice none 0 0) { S with q := [] } ∧ DKeep B W (W.setCell ⟨g, 5, none⟩ (.slice none 0 0)) := by
  obtain ⟨hS1, hS2, hS3, hS4, hS5, hS6, hS7, hS8, hS9, hS10, hS11⟩ := h.ok
  have h1 : ∀ q cs t, Blk W q t cs → t ≠ 54 → Blk (W.setCell ⟨g, 5, none⟩ (.slice none 0 0)) q t cs := fun q cs t hb ht => hb.far (fun e => Blk.ne_ hb h.dev ht (by exact e)) _
  have h2 : ∀ {e : TypeId} {s n : Nat} {v : Value} {xs : List Value}, W.ownsRow B e s v n xs → e ≠ 54 → (W.setCell ⟨g, 5, none⟩ (.slice none 0 0)).ownsRow B e s v n xs := fun ho he =>
    ho.kept (only_setCell (World.grownBy.refl W (some g)) (.inl rfl) _) (.inr (own_blk_ne ho h.dev he))
  exact ⟨⟨⟨hS1, hS2, hS3, fun e he => absurd he List.not_mem_nil, hS5, Nat.zero_le _, hS7, hS8, hS9, hS10, hS11⟩, h.bg, h.bk, h.bn, h.ne, h.dev.set_ 5 _, h1 _ _ _ h.kept (by decide), h1 _ _ _ h.now (by decide), h2 h.bad (by decide), World.ownsRow_nil _ _ _ _⟩,
    (Below.refl B W).setCell (p := ⟨g, 5, none⟩) h.bg _, fun q cs t hb ht _ _ => h1 q cs t hb ht⟩

set_option maxRecDepth 100000 in
set_option maxHeartbeats 2000000 in
theorem settle_any (W : World) (B g : Nat) (S : DS) (h : DevAt W B g S) :
    Calls Try.prog 40 #[.pointer (some ⟨g, 0, none⟩)] W fun e W' => e = .returned (.tuple #[]) ∧ DevAt W' B g (settleS S) ∧ DKeep B W W' := by
  obtain ⟨gk, gn, bv, qv, h⟩ := h
  obtain ⟨Aq, cq, rfl, _⟩ := h.queue_form
  have r5 : W.cell? ⟨g, 5, none⟩ = some (.slice Aq S.q.length cq) := h.dev.cell 5
  have hql : S.q.length ≤ 1048576 := h.ok.2.2.2.2.2.1
  have H := hide h
  clear h
  go_enter Try.func40, Try.ntmps40
  go_wp2_with fail
  go_loopw [9] (fun i wr => ∃ j : Nat, j ≤ S.q.length ∧ i = .int .i64 j ∧ DevIn wr B g gk gn bv (.slice Aq S.q.length cq) { S with kept := settleK S.kept S.now (S.q.take j) } ∧ DKeep B W wr) (fun i _ => S.q.length - (intOf i).toNat)
  case atStart => exact ⟨0, Nat.zero_le _, rfl, H.out, DKeep.refl _ _⟩
  case round =>
    obtain ⟨j, hj, rfl, hd, hk⟩ := hrel
    have HKJ := hide hk
    by_cases hlt : j < S.q.length
    · obtain ⟨gq, cap, hv, _, _⟩ := hd.queue.form (show 0 < S.q.length by omega)
      obtain ⟨rfl, rfl⟩ : Aq = some ⟨gq, 0, none⟩ ∧ cq = cap := by
        injection hv with h1 h2 h3
        exact ⟨h1, h3⟩
      have HIN := hide hd
      have HRQ := hide (hd.queue_range (k := j) hlt)
      have HTK := hide (show settleK S.kept S.now (S.q.take (j + 1)) = (settleK S.kept S.now (S.q.take j)).set S.q[j].1 (S.now.getD S.q[j].1 []) by rw [List.take_succ_eq_append_getElem hlt, settleK_snoc])
      obtain ⟨ha, hs64⟩ := hd.ok.2.2.2.1 S.q[j] (List.getElem_mem hlt)
      rw [show ({ S with kept := settleK S.kept S.now (S.q.take j) } : DS).kept.length = S.kept.length from settleK_len _ _ _] at ha
      have hnl : S.now.length = S.kept.length := H.out.ok.1
      have i1 : (0 : Int) ≤ (j : Int) := by omega
      have i2 : (j : Int) < (S.q.length : Int) := by omega
      change Hid (wr.rangeAt gq (j * 65) (wcell S.q[j])) at HRQ
      clear hd hk hv
      generalize S.q[j] = e at *
      have hw65 := wcell_len e hs64
      have HB2 : Hid (Blk (wr.alloc (.cells (wcell e).toArray 79)) wr.heap.size 79 (wcell e).toArray) := Blk.new _ _ _
      have HW2 : Hid (Below wr.heap.size wr (wr.alloc (.cells (wcell e).toArray 79))) := (Below.refl _ _).alloc (Nat.le_refl _) _
      have hsc := cells_wr_new wr e hs64
      have hz61 := fun W' => zero_write W'
      generalize wr.alloc (.cells (wcell e).toArray 79) = W2 at *
      go_wp2_with (with_reducible refine wpList_load_mid rfl 79 (.tmp 11) rfl gq (j * 65) rfl (wcell e) _ HRQ.out Try.underlying79 rfl (by rw [wr_size, hw65]) ?_)
      have HIN2 := hide (HIN.out.lift HW2.out)
      have hb2 := HB2.out
      have HK2 := hide (HKJ.out.trans (DKeep.of_below HW2.out (Nat.le_trans HIN.out.bg (Nat.le_of_lt HIN.out.dev.lt))))
      clear hsc hz61
      refine region_tail 15 (by kernel_rfl) (by kernel_rfl) ?_
      intro Y hY
      have HK6 : Hid (DKeep B W Y) := by
        rw [hY]
        exact HK2.out.trans (DKeep.of_below (Below.refl _ _).drew (Nat.le_trans HIN2.out.bg (Nat.le_of_lt HIN2.out.dev.lt)))
      have HIN6 : Hid (DevIn Y B g gk gn bv (.slice (some ⟨gq, 0, none⟩) S.q.length cq) { S with kept := settleK S.kept S.now (S.q.take j) }) := by
        rw [hY]
        exact HIN2.out.lift (Below.refl _ _).drew
      have hb6 : Blk Y wr.heap.size 79 (wcell e).toArray := by
        rw [hY]
        exact HB2.out.drew
      clear hY HIN2 HB2 HK2 hb2
      have k3 : Y.cell? ⟨g, 3, none⟩ = some (.slice (some ⟨gk, 0, none⟩) S.kept.length S.kept.length) := by
        have := HIN6.out.dev.cell 3
        simpa [devCells, settleK_len] using this
      have k4 : Y.cell? ⟨g, 4, none⟩ = some (.slice (some ⟨gn, 0, none⟩) S.kept.length S.kept.length) := by
        have := HIN6.out.dev.cell 4
        simpa [devCells, settleK_len] using this
      have k5 : Y.cell? ⟨wr.heap.size, 0, none⟩ = some (.int .i64 (e.1 : Int)) := by
        have := hb6.cell 0
        simpa [wcell] using this
      have hn64 : All64 S.now := HIN6.out.ok.2.2.1
      have hin : e.1 < S.now.length := by omega
      obtain ⟨s, hs⟩ : ∃ s, S.now[e.1]? = some s := ⟨_, List.getElem?_eq_getElem hin⟩
      have hsl : s.length = 64 := hn64 s (List.mem_of_getElem? hs)
      have HKRG : Hid (Y.rangeAt gn (e.1 * 64) (byts s)) := by
        have := secs_range HIN6.out.now hn64 (i := e.1) hin
        rw [List.getElem?_eq_getElem hin, Option.some.injEq] at hs
        show Y.rangeAt gn (e.1 * 64) (byts s)
        rw [← hs]
        exact this
      have hlm : S.kept.length ≤ 65536 := H.out.ok.2.2.2.2.1
      have hgd : S.now.getD e.1 [] = s := by rw [List.getD_eq_getElem?_getD, hs]; rfl
      rw [hgd] at HTK
      have HSN := hide (HIN6.out.setKept (i := e.1) (s := s) (by
        show e.1 < (settleK S.kept S.now (S.q.take j)).length
        rw [settleK_len]
        exact ha) hsl)
      have HST := hide (store_sec Y gk (64 * e.1) _ _ s hsl HIN6.out.kept (by
        have h1 : All64 (settleK S.kept S.now (S.q.take j)) := HIN6.out.ok.2.1
        show 64 * e.1 + 64 ≤ (byts (settleK S.kept S.now (S.q.take j)).flatten).toArray.size
        rw [List.size_toArray, byts_length, flat64_len _ h1, settleK_len]
        omega))
      clear hb6 hn64 hs hgd hin
      have z1 : (0 : Int) ≤ (e.1 : Int) := by omega
      have z2 : (e.1 : Int) < (S.kept.length : Int) := by omega
      simp only [List.take_succ_cons, List.take_zero, List.drop_succ_cons, List.drop_zero]
      still_step
      still_step
      still_step
      still_step
      still_step
      still_step
      still_step
      still_step
      still_step
      still_step
      still_step
      still_step
      still_step
      refine wpStill_load rfl 77 (.tmp 25) rfl rfl (load_sec Y gn (e.1 * 64) s hsl HKRG.out) ?_
      simp only [Act.put, List.setIfInBounds_toArray, List.set_cons_zero, List.set_cons_succ]
      still_step
      refine wpStill_nil ?_
      refine wpList_store_run rfl 77 (.tmp 27) (.tmp 26) rfl (show _ = Value.pointer (some ⟨gk, 64 * e.1, none⟩) from by
        show Value.pointer (some ⟨gk, e.1 * 64, none⟩) = _
        rw [Nat.mul_comm]) rfl HST.out ?_
      obtain ⟨hin7, hk7⟩ := HSN.out _ rfl
      generalize Y.setRow _ _ = Z at *
      have HIN7 := hide hin7
      have HK7 := hide (HK6.out.trans hk7)
      clear hin7 hk7 HSN HST HIN6 HK6 k3 k4 k5 z1 z2 hlm
      simp only [Act.put]
      go_wp2
      go_roundw
      case rel =>
        refine ⟨j + 1, by omega, by go_num, ?_, HK7.out⟩
        rw [HTK.out]
        exact HIN7.out
      case measure => simp [intOf]; omega
    · obtain rfl : j = S.q.length := by omega
      rw [List.take_length] at hd
      have HIN := hide hd
      have f5 := hd.dev.frozen 5
      have c5 : wr.cell? ⟨g, 5, none⟩ = some (.slice Aq S.q.length cq) := hd.dev.cell 5
      clear hd hk
      go_wp2
      go_end0
      obtain ⟨h1, h2⟩ := HIN.out.clearQ
      exact ⟨rfl, ⟨gk, gn, bv, _, h1⟩, HKJ.out.trans h2⟩

def flushTo (S : DS) : DS := if codeN S = 0 then settleS (stepN S) else stepN S
set_option maxRecDepth 100000 in
set_option maxHeartbeats 1000000 in
theorem flush_any (W : World) (B g : Nat) (S : DS) (h : DevAt W B g S) (hn : S.n < 1048576) (hl : -1 ≤ S.left) :
    Calls Try.prog 21 #[.pointer (some ⟨g, 0, none⟩)] W fun e W' => e = .returned (.int .i64 (codeN S)) ∧ DevAt W' B g (flushTo S) ∧ DKeep B W W' := by
  have HN := hide (next_any W B g S h hn hl)
  clear h
  by_cases hc0 : codeN S = 0
  · have e2 : flushTo S = settleS (stepN S) := if_pos hc0
    rw [e2, hc0]
    rw [hc0] at HN
    clear hc0 e2
    go_enter Try.func21, Try.ntmps21
    go_wp2_with fail
    refine (unhide HN).mono ?_
    rintro e w1 ⟨rfl, hd, hk⟩
    have HS := hide (settle_any w1 B g (stepN S) hd)
    have HK := hide hk
    clear hd hk HN
    go_wp2_with fail
    refine (unhide HS).mono ?_
    rintro e w2 ⟨rfl, hd2, hk2⟩
    have HD2 := hide hd2
    have HK2 := hide hk2
    clear hd2 hk2
    go_wp2
    go_ret
    exact ⟨rfl, HD2.out, HK.out.trans HK2.out⟩
  · have e2 : flushTo S = stepN S := if_neg hc0
    have hne : (codeN S != 0) = true := by simpa using hc0
    rw [e2]
    clear hc0 e2
    generalize codeN S = cd at *
    go_enter Try.func21, Try.ntmps21
    go_wp2_with fail
    refine (unhide HN).mono ?_
    rintro e w1 ⟨rfl, hd, hk⟩
    have HD := hide hd
    have HK := hide hk
    clear hd hk
    go_wp2
    go_ret
    exact ⟨rfl, HD.out, HK.out⟩
end Go.Proofs.Ytogjdfiimflbaaa
