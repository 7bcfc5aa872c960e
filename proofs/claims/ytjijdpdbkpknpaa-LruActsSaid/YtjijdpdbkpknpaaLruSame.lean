/-
  The walks of icehouseref03.Same, icehouseref19.Same, icehouseref21.Same where both sides say the same. Conditions: both read as the same data.
-/
import Derived.Test.YtjijdpdbkpknpaaLruNone
namespace Go.Proofs.Ytjijdpdbkpknpaa
open Go Go.RowKit

theorem load_pair (W : World) (ad : Addr) (t : TypeId) (fs : Array Field) (u v : Value) (hu : Try.prog.underlying t = some (.struct fs)) (hs : (Try.prog.info? t).map (·.size) = some 2) (h0 : W.cell? (ad.add 0) = some u) (h1 : W.cell? (ad.add 1) = some v) : (Instr.loadAt t (.pointer (some ad))).run Try.prog W = .ok (.agg #[u, v]) W :=
  run_loadAt_ad W ad t [u, v] _ (fun j x hx => by
    match j, hx with
    | 0, hx => simp at hx; rw [h0, hx]
    | 1, hx => simp at hx; rw [h1, hx]
    | j + 2, hx => simp at hx) hu rfl (by rw [hs]; rfl)

set_option maxRecDepth 100000 in
set_option maxHeartbeats 1000000 in
theorem same_flds (l : List (ByteArray × ByteArray)) (A1 A2 : Option Addr) (n1 n2 c1 c2 B : Nat) (w : World) (hn1 : n1 = l.length) (hn2 : n2 = l.length) (hl : l.length ≤ 1000) (hA1 : Reads w B 2 A1 n1 (flds l)) (hA2 : Reads w B 2 A2 n2 (flds l)) :
    Calls Try.prog 79 #[.slice A1 n1 c1, .slice A2 n2 c2] w fun e w' => e = .returned (.bool true) ∧ ∃ n, w' = w.drewN n := by
  subst hn1 hn2
  have HA1 := hide hA1
  have HA2 := hide hA2
  clear hA1 hA2
  have hll : ((l.length : Int) != (l.length : Int)) = false := by simp
  go_enter Try.func79, Try.ntmps79
  go_wp2_with fail
  go_loopw [5] (fun i wr => ∃ k : Nat, k ≤ l.length ∧ i = .int .i64 k ∧ ∃ n, wr = w.drewN n) (fun i _ => l.length - (intOf i).toNat)
  case atStart => exact ⟨0, Nat.zero_le _, rfl, 0, rfl⟩
  case round =>
    obtain ⟨k, hk, rfl, n, rfl⟩ := hrel
    by_cases hlt : k < l.length
    · obtain ⟨p1, rfl, hp1, q1⟩ := (unhide HA1).2 (by omega)
      obtain ⟨p2, rfl, hp2, q2⟩ := (unhide HA2).2 (by omega)
      obtain ⟨g1, g2⟩ := flds_get l k hlt
      have a1 : w.cell? (p1.add (k * 2)) = some (.string l[k].1) := q1 _ _ g1
      have a2 : w.cell? (p1.add (k * 2 + 1)) = some (.string l[k].2) := q1 _ _ g2
      have b1 : w.cell? (p2.add (k * 2)) = some (.string l[k].1) := q2 _ _ g1
      have b2 : w.cell? (p2.add (k * 2 + 1)) = some (.string l[k].2) := q2 _ _ g2
      have HL1 : Hid (∀ m, (Instr.loadAt 101 (.pointer (some (p1.add (k * 2))))).run Try.prog (w.drewN m) = .ok (.agg #[.string l[k].1, .string l[k].2]) (w.drewN m)) := fun m => load_pair _ _ _ _ _ _ Try.underlying101 fld_info (by rw [add_of_add]; exact a1) (by rw [add_of_add]; exact a2)
      have HL2 : Hid (∀ m, (Instr.loadAt 101 (.pointer (some (p2.add (k * 2))))).run Try.prog (w.drewN m) = .ok (.agg #[.string l[k].1, .string l[k].2]) (w.drewN m)) := fun m => load_pair _ _ _ _ _ _ Try.underlying101 fld_info (by rw [add_of_add]; exact b1) (by rw [add_of_add]; exact b2)
      clear q1 q2 g1 g2 a1 a2 b1 b2
      generalize l[k].1 = x at *
      generalize l[k].2 = y at *
      have i1 : (0 : Int) ≤ (k : Int) := by omega
      have i2 : (k : Int) < (l.length : Int) := by omega
      go_wp2_with fail
      refine region_tail 8 (by kernel_rfl) (by kernel_rfl) ?_
      intro Y hY
      have hY2 : Y = w.drewN (n + 1) := by rw [hY]; rfl
      subst hY2
      clear hY
      simp only [List.take_succ_cons, List.take_zero, List.drop_succ_cons, List.drop_zero]
      still_step
      still_step
      still_step
      refine wpStill_load rfl 101 (.tmp 19) rfl rfl (HL1.out _) ?_
      simp only [Act.put, List.setIfInBounds_toArray, List.set_cons_zero, List.set_cons_succ]
      still_step
      still_step
      still_step
      refine wpStill_load rfl 101 (.tmp 23) rfl rfl (HL2.out _) ?_
      simp only [Act.put, List.setIfInBounds_toArray, List.set_cons_zero, List.set_cons_succ]
      refine wpStill_nil ?_
      go_wp2
      go_roundw
      case rel => exact ⟨k + 1, by omega, by go_num, n + 1, rfl⟩
      case measure => simp [intOf]; omega
    · go_wp2
      go_ret
      exact ⟨rfl, n, rfl⟩

def ecs (h : Hd) (l : Loc) : List Value :=
  [.string h.uri, .slice l.an h.names.length l.cn, .string h.variant, .string h.method, .string h.target, .int .i64 h.status, .string h.reason, .int .i64 h.minor, .slice l.af h.fields.length l.cf, .int .i64 h.asked, .int .i64 h.got, .int .i64 h.order, .int .i64 h.size, .int .u32 h.sum, .slice l.ab h.body.length l.cb]
theorem info_start : (Try.prog.info? 31).map (·.size) = some 5 := by kernel_rfl
theorem info_times : (Try.prog.info? 34).map (·.size) = some 2 := by kernel_rfl
theorem info_extent : (Try.prog.info? 146).map (·.size) = some 2 := by kernel_rfl

set_option maxRecDepth 100000 in
set_option maxHeartbeats 4000000 in
theorem same_entry (h : Hd) (l m : Loc) (B : Nat) (w : World) (hB : B ≤ w.heap.size) (hok : h.names.length ≤ 1000 ∧ h.fields.length ≤ 1000 ∧ h.body.length ≤ 1000)
    (n1 : Reads w B 1 l.an h.names.length (strs h.names)) (n2 : Reads w B 1 m.an h.names.length (strs h.names)) (f1 : Reads w B 2 l.af h.fields.length (flds h.fields)) (f2 : Reads w B 2 m.af h.fields.length (flds h.fields)) (b1 : Reads w B 2 l.ab h.body.length (exts h.body)) (b2 : Reads w B 2 m.ab h.body.length (exts h.body)) :
    Calls Try.prog 48 #[.agg (ecs h l).toArray, .agg (ecs h m).toArray] w fun e w' => e = .returned (.bool true) ∧ Below w.heap.size w w' := by
  have HA1 : Hid (Blk (w.alloc (.cells (ecs h l).toArray 38)) w.heap.size 38 (ecs h l).toArray) := Blk.new _ _ _
  have HW1 : Hid (Below w.heap.size w (w.alloc (.cells (ecs h l).toArray 38)) ∧ (w.alloc (.cells (ecs h l).toArray 38)).heap.size = w.heap.size + 1) := ⟨(Below.refl _ _).alloc (Nat.le_refl _) _, by simp⟩
  obtain ⟨W1, hA1⟩ : ∃ W1, w.alloc (.cells (ecs h l).toArray 38) = W1 := ⟨_, rfl⟩
  rw [hA1] at HA1 HW1
  have HA2 : Hid (Blk (W1.alloc (.cells (ecs h m).toArray 38)) W1.heap.size 38 (ecs h m).toArray) := Blk.new _ _ _
  have HW2 : Hid (Below W1.heap.size W1 (W1.alloc (.cells (ecs h m).toArray 38))) := (Below.refl _ _).alloc (Nat.le_refl _) _
  obtain ⟨W2, hA2⟩ : ∃ W2, W1.alloc (.cells (ecs h m).toArray 38) = W2 := ⟨_, rfl⟩
  rw [hA2] at HA2 HW2
  have hs1 := HW1.out.1.size
  have HW := hide (HW1.out.1.trans (HW2.out.mono hs1))
  have HB1 := hide (HA1.out.below HW2.out HA1.out.lt)
  have x0 : W2.cell? ⟨w.heap.size, 0, none⟩ = some (.string h.uri) := HB1.out.cell 0
  have x1 : W2.cell? ⟨w.heap.size, 1, none⟩ = some (.slice l.an h.names.length l.cn) := HB1.out.cell 1
  have x2 : W2.cell? ⟨w.heap.size, 2, none⟩ = some (.string h.variant) := HB1.out.cell 2
  have x3 : W2.cell? ⟨w.heap.size, 3, none⟩ = some (.string h.method) := HB1.out.cell 3
  have x4 : W2.cell? ⟨w.heap.size, 4, none⟩ = some (.string h.target) := HB1.out.cell 4
  have x5 : W2.cell? ⟨w.heap.size, 5, none⟩ = some (.int .i64 h.status) := HB1.out.cell 5
  have x6 : W2.cell? ⟨w.heap.size, 6, none⟩ = some (.string h.reason) := HB1.out.cell 6
  have x7 : W2.cell? ⟨w.heap.size, 7, none⟩ = some (.int .i64 h.minor) := HB1.out.cell 7
  have x8 : W2.cell? ⟨w.heap.size, 8, none⟩ = some (.slice l.af h.fields.length l.cf) := HB1.out.cell 8
  have x9 : W2.cell? ⟨w.heap.size, 9, none⟩ = some (.int .i64 h.asked) := HB1.out.cell 9
  have x10 : W2.cell? ⟨w.heap.size, 10, none⟩ = some (.int .i64 h.got) := HB1.out.cell 10
  have x11 : W2.cell? ⟨w.heap.size, 11, none⟩ = some (.int .i64 h.order) := HB1.out.cell 11
  have x12 : W2.cell? ⟨w.heap.size, 12, none⟩ = some (.int .i64 h.size) := HB1.out.cell 12
  have x13 : W2.cell? ⟨w.heap.size, 13, none⟩ = some (.int .u32 h.sum) := HB1.out.cell 13
  have x14 : W2.cell? ⟨w.heap.size, 14, none⟩ = some (.slice l.ab h.body.length l.cb) := HB1.out.cell 14
  have y0 : W2.cell? ⟨W1.heap.size, 0, none⟩ = some (.string h.uri) := HA2.out.cell 0
  have y1 : W2.cell? ⟨W1.heap.size, 1, none⟩ = some (.slice m.an h.names.length m.cn) := HA2.out.cell 1
  have y2 : W2.cell? ⟨W1.heap.size, 2, none⟩ = some (.string h.variant) := HA2.out.cell 2
  have y3 : W2.cell? ⟨W1.heap.size, 3, none⟩ = some (.string h.method) := HA2.out.cell 3
  have y4 : W2.cell? ⟨W1.heap.size, 4, none⟩ = some (.string h.target) := HA2.out.cell 4
  have y5 : W2.cell? ⟨W1.heap.size, 5, none⟩ = some (.int .i64 h.status) := HA2.out.cell 5
  have y6 : W2.cell? ⟨W1.heap.size, 6, none⟩ = some (.string h.reason) := HA2.out.cell 6
  have y7 : W2.cell? ⟨W1.heap.size, 7, none⟩ = some (.int .i64 h.minor) := HA2.out.cell 7
  have y8 : W2.cell? ⟨W1.heap.size, 8, none⟩ = some (.slice m.af h.fields.length m.cf) := HA2.out.cell 8
  have y9 : W2.cell? ⟨W1.heap.size, 9, none⟩ = some (.int .i64 h.asked) := HA2.out.cell 9
  have y10 : W2.cell? ⟨W1.heap.size, 10, none⟩ = some (.int .i64 h.got) := HA2.out.cell 10
  have y11 : W2.cell? ⟨W1.heap.size, 11, none⟩ = some (.int .i64 h.order) := HA2.out.cell 11
  have y12 : W2.cell? ⟨W1.heap.size, 12, none⟩ = some (.int .i64 h.size) := HA2.out.cell 12
  have y13 : W2.cell? ⟨W1.heap.size, 13, none⟩ = some (.int .u32 h.sum) := HA2.out.cell 13
  have y14 : W2.cell? ⟨W1.heap.size, 14, none⟩ = some (.slice m.ab h.body.length m.cb) := HA2.out.cell 14
  have N1 := hide (n1.below (HW.out.mono hB))
  have N2 := hide (n2.below (HW.out.mono hB))
  have F1 := hide (f1.below (HW.out.mono hB))
  have F2 := hide (f2.below (HW.out.mono hB))
  have E1 := hide (b1.below (HW.out.mono hB))
  have E2 := hide (b2.below (HW.out.mono hB))
  have HSN : Hid (Calls Try.prog 21 #[.slice l.an h.names.length l.cn, .slice m.an h.names.length m.cn] W2 fun e w' => e = .returned (.bool true) ∧ Below W2.heap.size W2 w') := (same_strs h.names h.names l.an m.an _ _ l.cn m.cn B W2 rfl rfl (by omega) (by omega) N1.out N2.out).mono fun e w' ⟨a, b, _⟩ => ⟨by rw [a, decide_eq_true rfl], b⟩
  have hszw := HW.out.size
  have HNQ := hide hok
  clear n1 n2 f1 f2 b1 b2 hs1
  go_enter Try.func48, Try.ntmps48
  go_wp2_with fail
  refine (unhide HSN).mono ?_
  rintro e W3 ⟨rfl, hb3⟩
  have HW3 := hide (HW.out.trans (hb3.mono hszw))
  have c8 : W3.cell? ⟨w.heap.size, 8, none⟩ = some (.slice l.af h.fields.length l.cf) := (hb3.cell (p := ⟨w.heap.size, 8, none⟩) HB1.out.lt).trans x8
  have c14 : W3.cell? ⟨w.heap.size, 14, none⟩ = some (.slice l.ab h.body.length l.cb) := (hb3.cell (p := ⟨w.heap.size, 14, none⟩) HB1.out.lt).trans x14
  have d8 : W3.cell? ⟨W1.heap.size, 8, none⟩ = some (.slice m.af h.fields.length m.cf) := (hb3.cell (p := ⟨W1.heap.size, 8, none⟩) HA2.out.lt).trans y8
  have d14 : W3.cell? ⟨W1.heap.size, 14, none⟩ = some (.slice m.ab h.body.length m.cb) := (hb3.cell (p := ⟨W1.heap.size, 14, none⟩) HA2.out.lt).trans y14
  have HSF := hide (same_flds h.fields l.af m.af _ _ l.cf m.cf B W3 rfl rfl HNQ.out.2.1 (F1.out.below (hb3.mono (by omega))) (F2.out.below (hb3.mono (by omega))))
  have G1 := hide (E1.out.below (hb3.mono (by omega)))
  have G2 := hide (E2.out.below (hb3.mono (by omega)))
  clear x0 x1 x2 x3 x4 x5 x6 x7 x8 x9 x10 x11 x12 x13 x14 y0 y1 y2 y3 y4 y5 y6 y7 y8 y9 y10 y11 y12 y13 y14 hb3 HSN
  go_wp2_with fail
  refine (unhide HSF).mono ?_
  rintro e W4 ⟨rfl, n4, rfl⟩
  have hlb : h.body.length ≤ 1000 := HNQ.out.2.2
  have hll : ((h.body.length : Int) != (h.body.length : Int)) = false := by simp
  clear hA1 hA2 HSF
  generalize h.body = bd at *
  go_wp2_with fail
  go_loopw [5] (fun i wr => ∃ k : Nat, k ≤ bd.length ∧ i = .int .i64 k ∧ ∃ n, wr = W3.drewN n) (fun i _ => bd.length - (intOf i).toNat)
  case atStart => exact ⟨0, Nat.zero_le _, rfl, n4, rfl⟩
  case round =>
    obtain ⟨k, hk, rfl, n, rfl⟩ := hrel
    by_cases hlt : k < bd.length
    · obtain ⟨p1, e1, hp1, q1⟩ := (unhide G1).2 (by omega)
      obtain ⟨p2, e2, hp2, q2⟩ := (unhide G2).2 (by omega)
      rw [e1] at c14
      rw [e2] at d14
      obtain ⟨g1, g2⟩ := exts_get bd k hlt
      have HL1 : Hid (∀ m, (Instr.loadAt 146 (.pointer (some (p1.add (k * 2))))).run Try.prog (W3.drewN m) = .ok (.agg #[.int .i64 bd[k].1, .int .i64 bd[k].2]) (W3.drewN m)) := fun m => load_pair _ _ _ _ _ _ Try.underlying146 info_extent (by rw [add_of_add]; exact q1 _ _ g1) (by rw [add_of_add]; exact q1 _ _ g2)
      have HL2 : Hid (∀ m, (Instr.loadAt 146 (.pointer (some (p2.add (k * 2))))).run Try.prog (W3.drewN m) = .ok (.agg #[.int .i64 bd[k].1, .int .i64 bd[k].2]) (W3.drewN m)) := fun m => load_pair _ _ _ _ _ _ Try.underlying146 info_extent (by rw [add_of_add]; exact q2 _ _ g1) (by rw [add_of_add]; exact q2 _ _ g2)
      clear q1 q2 g1 g2 e1 e2 hp1 hp2
      generalize bd[k].1 = x at *
      generalize bd[k].2 = y at *
      have i1 : (0 : Int) ≤ (k : Int) := by omega
      have i2 : (k : Int) < (bd.length : Int) := by omega
      go_wp2_with fail
      refine region_tail 10 (by kernel_rfl) (by kernel_rfl) ?_
      intro Y hY
      have hY2 : Y = W3.drewN (n + 1) := by rw [hY]; rfl
      subst hY2
      clear hY
      simp only [List.take_succ_cons, List.take_zero, List.drop_succ_cons, List.drop_zero]
      still_step
      still_step
      still_step
      still_step
      refine wpStill_load rfl 146 (.tmp 88) rfl rfl (HL1.out _) ?_
      simp only [Act.put, List.setIfInBounds_toArray, List.set_cons_zero, List.set_cons_succ]
      still_step
      still_step
      still_step
      still_step
      refine wpStill_load rfl 146 (.tmp 93) rfl rfl (HL2.out _) ?_
      simp only [Act.put, List.setIfInBounds_toArray, List.set_cons_zero, List.set_cons_succ]
      refine wpStill_nil ?_
      go_wp2
      go_roundw
      case rel => exact ⟨k + 1, by omega, by go_num, n + 1, rfl⟩
      case measure => simp [intOf]; omega
    · go_wp2
      go_ret
      exact ⟨rfl, below_drewN HW3.out n⟩
end Go.Proofs.Ytjijdpdbkpknpaa
