/-
  The device's Crash. Conditions: the device lies as its state says; the list of what is kept reads as bools, through whatever the device does.
-/
import Derived.Test.YtogjdfiimflbaaaDevNew
namespace Go.Proofs.Ytogjdfiimflbaaa
open Go Go.RowKit

def crashStep (part : Nat) (torn : Int) (keep : List Bool) (k : Nat) (K : List (List UInt8)) (e : Nat × List UInt8) : List (List UInt8) :=
  if (k : Int) = torn then K.set e.1 (e.2.take part ++ (K.getD e.1 []).drop part) else if keep.getD k false = true then K.set e.1 e.2 else K
def crashK (part : Nat) (torn : Int) (keep : List Bool) : Nat → List (List UInt8) → List (Nat × List UInt8) → List (List UInt8)
  | _, K, [] => K
  | k, K, e :: r => crashK part torn keep (k + 1) (crashStep part torn keep k K e) r
theorem crashK_snoc (part : Nat) (torn : Int) (keep : List Bool) (e : Nat × List UInt8) : ∀ (l : List (Nat × List UInt8)) (k : Nat) (K : List (List UInt8)), crashK part torn keep k K (l ++ [e]) = crashStep part torn keep (k + l.length) (crashK part torn keep k K l) e
  | [], _, _ => rfl
  | x :: r, k, K => by
    rw [List.cons_append, crashK, crashK_snoc part torn keep e r, crashK, List.length_cons, show k + 1 + r.length = k + (r.length + 1) by omega]
theorem crashStep_len (part : Nat) (torn : Int) (keep : List Bool) (k : Nat) (K : List (List UInt8)) (e : Nat × List UInt8) : (crashStep part torn keep k K e).length = K.length := by
  unfold crashStep
  split
  · exact List.length_set
  · split
    · exact List.length_set
    · rfl
theorem crashK_len (part : Nat) (torn : Int) (keep : List Bool) : ∀ (l : List (Nat × List UInt8)) (k : Nat) (K : List (List UInt8)), (crashK part torn keep k K l).length = K.length
  | [], _, _ => rfl
  | x :: r, k, K => by rw [crashK, crashK_len part torn keep r, crashStep_len]
def clip (P : Int) : Nat := (max 0 (min P 64)).toNat
def crashS (S : DS) (keep : List Bool) (torn P : Int) : DS :=
  ⟨0, [], -1, crashK (clip P) torn keep 0 S.kept S.q, settleK S.now (crashK (clip P) torn keep 0 S.kept S.q) S.q, []⟩
def bools (l : List Bool) : List Value := l.map Value.bool

theorem part_cells {K : List (List UInt8)} {i part : Nat} {s old : List UInt8} (h64 : All64 K) (hi : K[i]? = some old) (hp : part ≤ 64) (hs : s.length = 64) :
    (byts K.flatten).toArray.toList.take (i * 64) ++ byts (s.take part) ++ (byts K.flatten).toArray.toList.drop (i * 64 + (byts (s.take part)).length) =
    (byts K.flatten).toArray.toList.take (64 * i) ++ byts (s.take part ++ old.drop part) ++ (byts K.flatten).toArray.toList.drop (64 * i + 64) := by
  have hl : (byts (s.take part)).length = part := by rw [byts_length, List.length_take]; omega
  have hol : old.length = 64 := h64 old (List.mem_of_getElem? hi)
  have hg := flat64_get K i old h64 hi
  rw [hl, Nat.mul_comm i 64, byts_append, List.append_assoc, List.append_assoc, List.append_assoc]
  congr 2
  have e1 : (byts K.flatten).drop (64 * i + part) = ((byts K.flatten).drop (64 * i)).drop part := by rw [List.drop_drop]
  have e2 : byts (old.drop part) = (((byts K.flatten).drop (64 * i)).take 64).drop part := by
    rw [← hg]
    simp [byts, List.map_drop, List.map_take]
  have e3 : (byts K.flatten).drop (64 * i + 64) = ((byts K.flatten).drop (64 * i)).drop 64 := by rw [List.drop_drop]
  show (byts K.flatten).drop (64 * i + part) = byts (old.drop part) ++ (byts K.flatten).drop (64 * i + 64)
  rw [e1, e2, e3]
  generalize (byts K.flatten).drop (64 * i) = L
  rw [List.drop_take]
  have : (L.drop part).drop (64 - part) = L.drop 64 := by rw [List.drop_drop]; congr 1; omega
  rw [← this, List.take_append_drop]

/-- four stores at a crash's end -/
theorem DevIn.reset {W : World} {B g gk gn : Nat} {bv qv : Value} {S : DS} (h : DevIn W B g gk gn bv qv S) (X : World)
    (hX : X = (((W.setCell ⟨g, 5, none⟩ (.slice none 0 0)).setCell ⟨g, 0, none⟩ (.int .i64 0)).setCell ⟨g, 1, none⟩ (.slice none 0 0)).setCell ⟨g, 2, none⟩ (.int .i64 (-1))) :
    DevIn X B g gk gn (.slice none 0 0) (.slice none 0 0) { S with n := 0, bad := [], left := -1, q := [] } ∧ DKeep B W X := by
  obtain ⟨h1, k1⟩ := h.clearQ
  obtain ⟨h2, k2⟩ := h1.fail (bv' := .slice none 0 0) [] (Nat.zero_le _) (World.ownsRow_nil _ _ _ _)
  obtain ⟨hS1, hS2, hS3, hS4, hS5, hS6, hS7, hS8, hS9, hS10, hS11⟩ := h2.ok
  obtain ⟨h3, k3⟩ := h2.put (S' := { S with n := 0, bad := [], left := -1, q := [] }) ⟨hS1, hS2, hS3, hS4, hS5, hS6, hS7, hS8, hS9, by show (-2 : Int) ≤ -1; omega, by show (-1 : Int) ≤ _; omega⟩ rfl rfl rfl rfl 2 (.int .i64 (-1)) rfl
  subst hX
  exact ⟨h3, (k1.trans k2).trans k3⟩

set_option maxRecDepth 100000 in
set_option maxHeartbeats 4000000 in
theorem crash_any (W : World) (B g : Nat) (S : DS) (h : DevAt W B g S) (keep : List Bool) (torn P : Int) (A : Option Addr) (n c : Nat) (hn : n = keep.length) (hkl : keep.length ≤ 1099511627776) (hK : ∀ W', DKeep B W W' → Reads W' W'.heap.size 1 A n (bools keep)) :
    Calls Try.prog 11 #[.pointer (some ⟨g, 0, none⟩), .agg #[.slice A n c, .int .i64 torn, .int .i64 P]] W fun e W' => e = .returned (.tuple #[]) ∧ DevAt W' B g (crashS S keep torn P) ∧ DKeep B W W' := by
  subst hn
  obtain ⟨gk, gn, bv, qv, h⟩ := h
  obtain ⟨Aq, cq, rfl, _⟩ := h.queue_form
  have hql : S.q.length ≤ 1048576 := h.ok.2.2.2.2.2.1
  have hmin : ∀ ts t W, (Builtin.min_ ts t #[.int .i64 P, .int .i64 64]).run Try.prog W = .ok (.int .i64 (min P 64)) W := fun ts t W => by
    rw [run_min_int2]
    congr 2
    split <;> omega
  have hmax : ∀ ts t W, (Builtin.max_ ts t #[.int .i64 0, .int .i64 (min P 64)]).run Try.prog W = .ok (.int .i64 (clip P : Int)) W := fun ts t W => by
    rw [run_max_int2]
    congr 2
    unfold clip
    split <;> omega
  have hp64 : clip P ≤ 64 := by unfold clip; omega
  have HKB := hide (fun W' (hk : DKeep B W W') => hK W' hk)
  have HIN := hide h
  have HBG := hide (show g < W.heap.size from h.dev.lt)
  have HL1 := hide (h.lift (Below.alloc (Below.refl _ _) (Nat.le_refl _) (.cells #[.slice A keep.length c, .int .i64 torn, .int .i64 P] 42)))
  have HB1 : Hid (Blk (W.alloc (.cells #[.slice A keep.length c, .int .i64 torn, .int .i64 P] 42)) W.heap.size 42 #[.slice A keep.length c, .int .i64 torn, .int .i64 P]) := Blk.new _ _ _
  have HW1 : Hid (Below W.heap.size W (W.alloc (.cells #[.slice A keep.length c, .int .i64 torn, .int .i64 P] 42))) := (Below.refl _ _).alloc (Nat.le_refl _) _
  have c5 : (W.alloc (.cells #[.slice A keep.length c, .int .i64 torn, .int .i64 P] 42)).cell? ⟨g, 5, none⟩ = some (.slice Aq S.q.length cq) := HL1.out.dev.cell 5
  have HGC : Hid (B ≤ W.heap.size) := Nat.le_trans h.bg (Nat.le_of_lt h.dev.lt)
  clear h hK
  have HCR : Hid (crashS S keep torn P = ⟨0, [], -1, crashK (clip P) torn keep 0 S.kept S.q, settleK S.now (crashK (clip P) torn keep 0 S.kept S.q) S.q, []⟩) := rfl
  generalize clip P = part at *
  go_enter Try.func11, Try.ntmps11
  go_wp2_with fail
  go_loopw [18] (fun i wr => ∃ j : Nat, j ≤ S.q.length ∧ i = .int .i64 j ∧ DevIn wr B g gk gn bv (.slice Aq S.q.length cq) { S with kept := crashK part torn keep 0 S.kept (S.q.take j) } ∧ DKeep B W wr ∧ Blk wr W.heap.size 42 #[.slice A keep.length c, .int .i64 torn, .int .i64 P]) (fun i _ => S.q.length - (intOf i).toNat)
  case atStart => exact ⟨0, Nat.zero_le _, rfl, HL1.out, DKeep.of_below HW1.out HGC.out, HB1.out⟩
  case round =>
    obtain ⟨j, hj, rfl, hd, hk, hbc⟩ := hrel
    have HKJ := hide hk
    have HBC := hide hbc
    by_cases hlt : j < S.q.length
    · obtain ⟨gq, cap, hv, _, _⟩ := hd.queue.form (show 0 < S.q.length by omega)
      obtain ⟨rfl, rfl⟩ : Aq = some ⟨gq, 0, none⟩ ∧ cq = cap := by
        injection hv with h1 h2 h3
        exact ⟨h1, h3⟩
      have HINJ := hide hd
      have HRQ := hide (hd.queue_range (k := j) hlt)
      have HTK := hide (show crashK part torn keep 0 S.kept (S.q.take (j + 1)) = crashStep part torn keep j (crashK part torn keep 0 S.kept (S.q.take j)) S.q[j] by
        rw [List.take_succ_eq_append_getElem hlt, crashK_snoc, List.length_take, Nat.min_eq_left hj, Nat.zero_add])
      obtain ⟨ha, hs64⟩ := hd.ok.2.2.2.1 S.q[j] (List.getElem_mem hlt)
      rw [show ({ S with kept := crashK part torn keep 0 S.kept (S.q.take j) } : DS).kept.length = S.kept.length from crashK_len _ _ _ _ _ _] at ha
      have i1 : (0 : Int) ≤ (j : Int) := by omega
      have i2 : (j : Int) < (S.q.length : Int) := by omega
      change Hid (wr.rangeAt gq (j * 65) (wcell S.q[j])) at HRQ
      clear hd hk hv hbc c5
      generalize S.q[j] = e at *
      have hw65 := wcell_len e hs64
      have HB2 : Hid (Blk (wr.alloc (.cells (wcell e).toArray 79)) wr.heap.size 79 (wcell e).toArray) := Blk.new _ _ _
      have HW2 : Hid (Below wr.heap.size wr (wr.alloc (.cells (wcell e).toArray 79))) := (Below.refl _ _).alloc (Nat.le_refl _) _
      have hsc := cells_wr_new wr e hs64
      have hz61 := fun W' => zero_write W'
      generalize wr.alloc (.cells (wcell e).toArray 79) = W2 at *
      have HIN2 := hide (HINJ.out.lift HW2.out)
      have HKL := hide (show (crashK part torn keep 0 S.kept (S.q.take j)).length = S.kept.length from crashK_len _ _ _ _ _ _)
      have HLM := hide (show S.kept.length ≤ 65536 from HIN.out.ok.2.2.2.2.1)
      generalize crashK part torn keep 0 S.kept (S.q.take j) = K at *
      have HBC2 := hide (HBC.out.below HW2.out HBC.out.lt)
      have HK2 := hide (HKJ.out.trans (DKeep.of_below HW2.out (Nat.le_trans HINJ.out.bg (Nat.le_of_lt HINJ.out.dev.lt))))
      have hbc1 : W2.cell? ⟨W.heap.size, 1, none⟩ = some (.int .i64 torn) := HBC2.out.cell 1
      obtain ⟨old, hold⟩ : ∃ old, K[e.1]? = some old := ⟨_, List.getElem?_eq_getElem (by rw [HKL.out]; exact ha)⟩
      have HOLD := hide hold
      have HGD := hide (show K.getD e.1 [] = old by rw [List.getD_eq_getElem?_getD, hold]; rfl)
      have HK64 := hide (show All64 K from HIN2.out.ok.2.1)
      clear hold HINJ
      by_cases htn : (j : Int) = torn
      · have tb : ((j : Int) == torn) = true := by simpa using htn
        have HCS := hide (show crashStep part torn keep j K e = K.set e.1 (e.2.take part ++ old.drop part) by unfold crashStep; rw [if_pos htn, HGD.out])
        rw [HCS.out] at HTK
        clear htn
        go_wp2_with (with_reducible refine wpList_load_mid rfl 79 (.tmp 21) rfl gq (j * 65) rfl (wcell e) _ HRQ.out Try.underlying79 rfl (by rw [wr_size, hw65]) ?_)
        refine region_tail 12 (by kernel_rfl) (by kernel_rfl) ?_
        intro Y hY
        have HK6 : Hid (DKeep B W Y) := by
          rw [hY]
          exact HK2.out.trans (DKeep.of_below (Below.refl _ _).drew (Nat.le_trans HIN2.out.bg (Nat.le_of_lt HIN2.out.dev.lt)))
        have HIN6 : Hid (DevIn Y B g gk gn bv (.slice (some ⟨gq, 0, none⟩) S.q.length cq) { S with kept := K }) := by
          rw [hY]
          exact HIN2.out.lift (Below.refl _ _).drew
        have hb6 : Blk Y wr.heap.size 79 (wcell e).toArray := by
          rw [hY]
          exact HB2.out.drew
        have HBC6 : Hid (Blk Y W.heap.size 42 #[.slice A keep.length c, .int .i64 torn, .int .i64 P]) := by
          rw [hY]
          exact HBC2.out.drew
        clear hY HIN2 HB2 HK2 HBC2 hbc1
        have k3 : Y.cell? ⟨g, 3, none⟩ = some (.slice (some ⟨gk, 0, none⟩) S.kept.length S.kept.length) := by
          have := HIN6.out.dev.cell 3
          simpa [devCells, HKL.out] using this
        have k5 : Y.cell? ⟨wr.heap.size, 0, none⟩ = some (.int .i64 (e.1 : Int)) := by
          have := hb6.cell 0
          simpa [wcell] using this
        have krg : Y.rangeAt wr.heap.size 1 (byts e.2) := fun q v hv => by
          rw [hb6.cell]
          simpa [wcell, Nat.add_comm 1 q] using hv
        have KRG := hide krg
        have HLM := hide (show S.kept.length ≤ 65536 from HIN.out.ok.2.2.2.2.1)
        have hlm := HLM.out
        clear hb6 krg
        have z1 : (0 : Int) ≤ (e.1 : Int) := by omega
        have z2 : (e.1 : Int) < (S.kept.length : Int) := by omega
        have z3 : (0 : Int) ≤ (part : Int) := by omega
        have z4 : (part : Int) ≤ 64 := by omega
        have HSN := hide (HIN6.out.setKept (i := e.1) (s := e.2.take part ++ old.drop part) (by
          show e.1 < K.length
          rw [HKL.out]
          exact ha) (by
          have := HK64.out old (List.mem_of_getElem? HOLD.out)
          rw [List.length_append, List.length_take, List.length_drop]
          omega))
        have HST := hide (run_copy_row (P := Try.prog) Y 22 22 3 5 gk (e.1 * 64) part 64 ⟨wr.heap.size, 1, none⟩ part 64 _ _ (byts (e.2.take part)) Try.underlying22 (by kernel_rfl) HIN6.out.kept (by rw [byts_length, List.length_take, hs64, Nat.min_eq_left hp64]; exact (Nat.min_self part).symm) (fun q v hv => by
            rw [add_flat]
            refine KRG.out q v ?_
            have hq := (List.getElem?_eq_some_iff.1 hv).1
            rw [byts_length, List.length_take] at hq
            rw [byts, List.map_take, List.getElem?_take_of_lt (by omega)] at hv
            exact hv) (by
            show e.1 * 64 + (byts (e.2.take part)).length ≤ (byts K.flatten).toArray.size
            rw [List.size_toArray, byts_length, byts_length, flat64_len _ HK64.out, HKL.out, List.length_take]
            omega) byts_one)
        rw [part_cells HK64.out HOLD.out hp64 hs64] at HST
        simp only [List.take_succ_cons, List.take_zero, List.drop_succ_cons, List.drop_zero]
        still_step
        still_step
        still_step
        still_step
        still_step
        still_step
        still_step
        still_step
        still_step
        still_step
        still_step
        still_step
        refine wpStill_nil ?_
        refine wpList_copy_run rfl 22 22 (.tmp 36) (.tmp 39) rfl rfl rfl HST.out ?_
        obtain ⟨hin7, hk7⟩ := HSN.out _ rfl
        generalize Y.setRow _ _ = Z at *
        have HBC7 := hide (hk7.2 _ _ _ HBC6.out (by decide) (by decide) (by decide))
        have HIN7 := hide hin7
        have HK7 := hide (HK6.out.trans hk7)
        clear hin7 hk7 HSN HST HIN6 HK6 HBC6 k3 k5 z1 z2 hlm
        simp only [Act.put]
        go_wp2
        go_roundw
        case rel => exact ⟨j + 1, by omega, by go_num, by rw [HTK.out]; exact HIN7.out, HK7.out, HBC7.out⟩
        case measure => simp [intOf]; omega
      · have tb : ((j : Int) == torn) = false := by simpa using htn
        have HTN := hide htn
        clear htn
        have hbc0 : W2.cell? ⟨W.heap.size, 0, none⟩ = some (.slice A keep.length c) := HBC2.out.cell 0
        have HRD := hide (HKB.out W2 HK2.out)
        by_cases hjk : j < keep.length
        · obtain ⟨ad, u, rfl, hp, hu, q1⟩ := Reads.at_ HRD.out hjk
          rw [bools, List.getElem?_map, List.getElem?_eq_getElem hjk] at hu
          have hgd : keep.getD j false = keep[j] := by rw [List.getD_eq_getElem?_getD, List.getElem?_eq_getElem hjk]; rfl
          cases hu
          have i3 : (j : Int) < (keep.length : Int) := by omega
          have i4 : decide (j < keep.length) = true := decide_eq_true hjk
          generalize keep[j] = kb at *
          cases kb with
          | true =>
            have HCS := hide (show crashStep part torn keep j K e = K.set e.1 e.2 by unfold crashStep; rw [if_neg HTN.out, if_pos hgd])
            rw [HCS.out] at HTK
            clear hgd hp hjk
            go_wp2_with (with_reducible refine wpList_load_mid rfl 79 (.tmp 21) rfl gq (j * 65) rfl (wcell e) _ HRQ.out Try.underlying79 rfl (by rw [wr_size, hw65]) ?_)
            refine region_tail 9 (by kernel_rfl) (by kernel_rfl) ?_
            intro Y hY
            have HK6 : Hid (DKeep B W Y) := by
              rw [hY]
              exact HK2.out.trans (DKeep.of_below (Below.refl _ _).drew (Nat.le_trans HIN2.out.bg (Nat.le_of_lt HIN2.out.dev.lt)))
            have HIN6 : Hid (DevIn Y B g gk gn bv (.slice (some ⟨gq, 0, none⟩) S.q.length cq) { S with kept := K }) := by
              rw [hY]
              exact HIN2.out.lift (Below.refl _ _).drew
            have hb6 : Blk Y wr.heap.size 79 (wcell e).toArray := by
              rw [hY]
              exact HB2.out.drew
            have HBC6 : Hid (Blk Y W.heap.size 42 #[.slice (some ad) keep.length c, .int .i64 torn, .int .i64 P]) := by
              rw [hY]
              exact HBC2.out.drew
            clear hY HIN2 HB2 HK2 HBC2 hbc1
            have k3 : Y.cell? ⟨g, 3, none⟩ = some (.slice (some ⟨gk, 0, none⟩) S.kept.length S.kept.length) := by
              have := HIN6.out.dev.cell 3
              simpa [devCells, HKL.out] using this
            have k5 : Y.cell? ⟨wr.heap.size, 0, none⟩ = some (.int .i64 (e.1 : Int)) := by
              have := hb6.cell 0
              simpa [wcell] using this
            have krg : Y.rangeAt wr.heap.size 1 (byts e.2) := fun q v hv => by
              rw [hb6.cell]
              simpa [wcell, Nat.add_comm 1 q] using hv
            have KRG := hide krg
            have HLM := hide (show S.kept.length ≤ 65536 from HIN.out.ok.2.2.2.2.1)
            have hlm := HLM.out
            clear hb6 krg
            have z1 : (0 : Int) ≤ (e.1 : Int) := by omega
            have z2 : (e.1 : Int) < (S.kept.length : Int) := by omega
            have HSN := hide (HIN6.out.setKept (i := e.1) (s := e.2) (by
              show e.1 < K.length
              rw [HKL.out]
              exact ha) hs64)
            have HST := hide (store_sec Y gk (64 * e.1) _ _ e.2 hs64 HIN6.out.kept (by
              show 64 * e.1 + 64 ≤ (byts K.flatten).toArray.size
              rw [List.size_toArray, byts_length, flat64_len _ HK64.out, HKL.out]
              omega))
            simp only [List.take_succ_cons, List.take_zero, List.drop_succ_cons, List.drop_zero]
            still_step
            still_step
            still_step
            still_step
            still_step
            still_step
            still_step
            refine wpStill_load rfl 77 (.tmp 60) rfl rfl (load_sec Y wr.heap.size 1 e.2 hs64 KRG.out) ?_
            simp only [Act.put, List.setIfInBounds_toArray, List.set_cons_zero, List.set_cons_succ]
            still_step
            refine wpStill_nil ?_
            refine wpList_store_run rfl 77 (.tmp 62) (.tmp 61) rfl (show _ = Value.pointer (some ⟨gk, 64 * e.1, none⟩) from by
              show Value.pointer (some ⟨gk, e.1 * 64, none⟩) = _
              rw [Nat.mul_comm]) rfl HST.out ?_
            obtain ⟨hin7, hk7⟩ := HSN.out _ rfl
            generalize Y.setRow _ _ = Z at *
            have HBC7 := hide (hk7.2 _ _ _ HBC6.out (by decide) (by decide) (by decide))
            have HIN7 := hide hin7
            have HK7 := hide (HK6.out.trans hk7)
            clear hin7 hk7 HSN HST HIN6 HK6 HBC6 k3 k5 z1 z2 hlm
            simp only [Act.put]
            go_wp2
            go_roundw
            case rel => exact ⟨j + 1, by omega, by go_num, by rw [HTK.out]; exact HIN7.out, HK7.out, HBC7.out⟩
            case measure => simp [intOf]; omega
          | false =>
            have HCS := hide (show crashStep part torn keep j K e = K by unfold crashStep; rw [if_neg HTN.out, if_neg (by rw [hgd]; decide)])
            rw [HCS.out] at HTK
            clear hgd hp hjk
            go_wp2_with (with_reducible refine wpList_load_mid rfl 79 (.tmp 21) rfl gq (j * 65) rfl (wcell e) _ HRQ.out Try.underlying79 rfl (by rw [wr_size, hw65]) ?_)
            go_roundw
            case rel => exact ⟨j + 1, by omega, by go_num, by rw [HTK.out]; exact HIN2.out, HK2.out, HBC2.out⟩
            case measure => simp [intOf]; omega
        · have i4 : decide (j < keep.length) = false := decide_eq_false hjk
          have HCS := hide (show crashStep part torn keep j K e = K by unfold crashStep; rw [if_neg HTN.out, if_neg (by rw [List.getD_eq_getElem?_getD, List.getElem?_eq_none (by omega)]; decide)])
          rw [HCS.out] at HTK
          clear hjk
          go_wp2_with (with_reducible refine wpList_load_mid rfl 79 (.tmp 21) rfl gq (j * 65) rfl (wcell e) _ HRQ.out Try.underlying79 rfl (by rw [wr_size, hw65]) ?_)
          go_roundw
          case rel => exact ⟨j + 1, by omega, by go_num, by rw [HTK.out]; exact HIN2.out, HK2.out, HBC2.out⟩
          case measure => simp [intOf]; omega
    · obtain rfl : j = S.q.length := by omega
      rw [List.take_length] at hd
      have HINA := hide hd
      have c5a : wr.cell? ⟨g, 5, none⟩ = some (.slice Aq S.q.length cq) := hd.dev.cell 5
      have HKL := hide (show (crashK part torn keep 0 S.kept S.q).length = S.kept.length from crashK_len _ _ _ _ _ _)
      have HLM := hide (show S.kept.length ≤ 65536 from HIN.out.ok.2.2.2.2.1)
      have HNL := hide (show S.now.length = S.kept.length from HIN.out.ok.1)
      generalize crashK part torn keep 0 S.kept S.q = K at *
      clear hd hk hbc c5 hmin hmax HKB HBC HL1 HB1 HW1
      go_wp2_with fail
      go_loopw [69] (fun i wx => ∃ j : Nat, j ≤ S.q.length ∧ i = .int .i64 j ∧ DevIn wx B g gk gn bv (.slice Aq S.q.length cq) { S with kept := K, now := settleK S.now K (S.q.take j) } ∧ DKeep B W wx) (fun i _ => S.q.length - (intOf i).toNat)
      case atStart => exact ⟨0, Nat.zero_le _, rfl, HINA.out, HKJ.out⟩
      case round =>
        obtain ⟨j, hj2, rfl, hd, hk⟩ := hrel
        have HKX := hide hk
        by_cases hlt : j < S.q.length
        · obtain ⟨gq, cap, hv, _, _⟩ := hd.queue.form (show 0 < S.q.length by omega)
          obtain ⟨rfl, rfl⟩ : Aq = some ⟨gq, 0, none⟩ ∧ cq = cap := by
            injection hv with h1 h2 h3
            exact ⟨h1, h3⟩
          have HIN := hide hd
          have HRQ := hide (hd.queue_range (k := j) hlt)
          have HTK := hide (show settleK S.now K (S.q.take (j + 1)) = (settleK S.now K (S.q.take j)).set S.q[j].1 (K.getD S.q[j].1 []) by rw [List.take_succ_eq_append_getElem hlt, settleK_snoc])
          obtain ⟨ha, hs64⟩ := hd.ok.2.2.2.1 S.q[j] (List.getElem_mem hlt)
          rw [show ({ S with kept := K, now := settleK S.now K (S.q.take j) } : DS).kept.length = S.kept.length from HKL.out] at ha
          have hnl := HNL.out
          have i1 : (0 : Int) ≤ (j : Int) := by omega
          have i2 : (j : Int) < (S.q.length : Int) := by omega
          change Hid (wr.rangeAt gq (j * 65) (wcell S.q[j])) at HRQ
          clear hd hk hv c5a
          generalize S.q[j] = e at *
          have hw65 := wcell_len e hs64
          have HB2 : Hid (Blk (wr.alloc (.cells (wcell e).toArray 79)) wr.heap.size 79 (wcell e).toArray) := Blk.new _ _ _
          have HW2 : Hid (Below wr.heap.size wr (wr.alloc (.cells (wcell e).toArray 79))) := (Below.refl _ _).alloc (Nat.le_refl _) _
          have hsc := cells_wr_new wr e hs64
          have hz61 := fun W' => zero_write W'
          generalize wr.alloc (.cells (wcell e).toArray 79) = W2 at *
          go_wp2_with (with_reducible refine wpList_load_mid rfl 79 (.tmp 71) rfl gq (j * 65) rfl (wcell e) _ HRQ.out Try.underlying79 rfl (by rw [wr_size, hw65]) ?_)
          have HIN2 := hide (HIN.out.lift HW2.out)
          have hb2 := HB2.out
          have HK2 := hide (HKX.out.trans (DKeep.of_below HW2.out (Nat.le_trans HIN.out.bg (Nat.le_of_lt HIN.out.dev.lt))))
          clear hsc hz61
          refine region_tail 15 (by kernel_rfl) (by kernel_rfl) ?_
          intro Y hY
          have HK6 : Hid (DKeep B W Y) := by
            rw [hY]
            exact HK2.out.trans (DKeep.of_below (Below.refl _ _).drew (Nat.le_trans HIN2.out.bg (Nat.le_of_lt HIN2.out.dev.lt)))
          have HIN6 : Hid (DevIn Y B g gk gn bv (.slice (some ⟨gq, 0, none⟩) S.q.length cq) { S with kept := K, now := settleK S.now K (S.q.take j) }) := by
            rw [hY]
            exact HIN2.out.lift (Below.refl _ _).drew
          have hb6 : Blk Y wr.heap.size 79 (wcell e).toArray := by
            rw [hY]
            exact HB2.out.drew
          clear hY HIN2 HB2 HK2 hb2
          have k3 : Y.cell? ⟨g, 3, none⟩ = some (.slice (some ⟨gk, 0, none⟩) S.kept.length S.kept.length) := by
            have := HIN6.out.dev.cell 3
            simpa [devCells, HKL.out] using this
          have k4 : Y.cell? ⟨g, 4, none⟩ = some (.slice (some ⟨gn, 0, none⟩) S.kept.length S.kept.length) := by
            have := HIN6.out.dev.cell 4
            simpa [devCells, HKL.out] using this
          have k5 : Y.cell? ⟨wr.heap.size, 0, none⟩ = some (.int .i64 (e.1 : Int)) := by
            have := hb6.cell 0
            simpa [wcell] using this
          have hn64 : All64 K := HIN6.out.ok.2.1
          have hin : e.1 < K.length := by rw [HKL.out]; exact ha
          obtain ⟨s, hs⟩ : ∃ s, K[e.1]? = some s := ⟨_, List.getElem?_eq_getElem hin⟩
          have hsl : s.length = 64 := hn64 s (List.mem_of_getElem? hs)
          have HKRG : Hid (Y.rangeAt gk (e.1 * 64) (byts s)) := by
            have := secs_range HIN6.out.kept hn64 (i := e.1) hin
            rw [List.getElem?_eq_getElem hin, Option.some.injEq] at hs
            show Y.rangeAt gk (e.1 * 64) (byts s)
            rw [← hs]
            exact this
          have hlm := HLM.out
          have hgd : K.getD e.1 [] = s := by rw [List.getD_eq_getElem?_getD, hs]; rfl
          rw [hgd] at HTK
          have HSN := hide (HIN6.out.setNow (i := e.1) (s := s) (by
            show e.1 < K.length
            rw [HKL.out]
            exact ha) hsl)
          have HST := hide (store_sec Y gn (64 * e.1) _ _ s hsl HIN6.out.now (by
            have h1 : All64 (settleK S.now K (S.q.take j)) := HIN6.out.ok.2.2.1
            show 64 * e.1 + 64 ≤ (byts (settleK S.now K (S.q.take j)).flatten).toArray.size
            rw [List.size_toArray, byts_length, flat64_len _ h1, settleK_len]
            omega))
          clear hb6 hn64 hs hgd hin
          have z1 : (0 : Int) ≤ (e.1 : Int) := by omega
          have z2 : (e.1 : Int) < (S.kept.length : Int) := by omega
          simp only [List.take_succ_cons, List.take_zero, List.drop_succ_cons, List.drop_zero]
          still_step
          still_step
          still_step
          still_step
          still_step
          still_step
          still_step
          still_step
          still_step
          still_step
          still_step
          still_step
          still_step
          refine wpStill_load rfl 77 (.tmp 85) rfl rfl (load_sec Y gk (e.1 * 64) s hsl HKRG.out) ?_
          simp only [Act.put, List.setIfInBounds_toArray, List.set_cons_zero, List.set_cons_succ]
          still_step
          refine wpStill_nil ?_
          refine wpList_store_run rfl 77 (.tmp 87) (.tmp 86) rfl (show _ = Value.pointer (some ⟨gn, 64 * e.1, none⟩) from by
            show Value.pointer (some ⟨gn, e.1 * 64, none⟩) = _
            rw [Nat.mul_comm]) rfl HST.out ?_
          obtain ⟨hin7, hk7⟩ := HSN.out _ rfl
          generalize Y.setRow _ _ = Z at *
          have HIN7 := hide hin7
          have HK7 := hide (HK6.out.trans hk7)
          clear hin7 hk7 HSN HST HIN6 HK6 k3 k4 k5 z1 z2 hlm
          simp only [Act.put]
          go_wp2
          go_roundw
          case rel =>
            refine ⟨j + 1, by omega, by go_num, ?_, HK7.out⟩
            rw [HTK.out]
            exact HIN7.out
          case measure => simp [intOf]; omega
        · obtain rfl : j = S.q.length := by omega
          rw [List.take_length] at hd
          have HINB := hide hd
          have HRS := hide (hd.reset _ rfl)
          have f5 := hd.dev.frozen 5
          have f0 := hd.dev.frozen 0
          have f1 := hd.dev.frozen 1
          have f2 := hd.dev.frozen 2
          have b5 : wr.cell? ⟨g, 5, none⟩ = some (.slice Aq S.q.length cq) := hd.dev.cell 5
          have b0 : wr.cell? ⟨g, 0, none⟩ = some (.int .i64 S.n) := hd.dev.cell 0
          have b1 : wr.cell? ⟨g, 1, none⟩ = some bv := hd.dev.cell 1
          have b2 : wr.cell? ⟨g, 2, none⟩ = some (.int .i64 S.left) := hd.dev.cell 2
          clear hd hk c5a
          go_wp2
          go_end0
          rw [HCR.out]
          exact ⟨rfl, ⟨gk, gn, _, _, HRS.out.1⟩, HKX.out.trans HRS.out.2⟩
end Go.Proofs.Ytogjdfiimflbaaa
