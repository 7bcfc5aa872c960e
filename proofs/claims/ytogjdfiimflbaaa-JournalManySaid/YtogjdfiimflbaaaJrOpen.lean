/-
  The walk of journal's Open. Conditions: a mark counts; the records that are found; a device that no call fails.
-/
import Derived.Test.YtogjdfiimflbaaaJrChain
namespace Go.Proofs.Ytogjdfiimflbaaa
open Go Go.RowKit

def foundJ (z m f a a' : Nat) (rs : List (List PutL)) : JS := { z := z, m := m, f := f, a := a, next := f + rs.length, pos := a', base := a, count := rs.length, owed := rs.flatten }
def openJ (z m f a a' : Nat) (rs : List (List PutL)) : JS := setJ (foundJ z m f a a' rs)
def openN (z m f a a' : Nat) (rs : List (List PutL)) (N : List (List UInt8)) : List (List UInt8) := bif decide (0 < rs.length) then settleN (foundJ z m f a a' rs) N else N
/-- what an Open must find -/
structure OpenOk (N : List (List UInt8)) (z m f a a' : Nat) (rs : List (List PutL)) : Prop where
  z5 : 5 ≤ z
  zN : z ≤ N.length
  marks : ∃ b0 b1 m0 f0 a0 x0 m1 f1 a1 x1, N[0]? = some b0 ∧ N[1]? = some b1 ∧ MkOf b0 0 z m0 f0 a0 x0 ∧ MkOf b1 1 z m1 f1 a1 x1 ∧ newR m0 f0 a0 m1 f1 a1 x0 x1 = (m, f, a, true)
  mb : m < 65000
  fb : f + rs.length < 65000
  ab : a ≤ z
  owed : rs.flatten.length ≤ 1000
  chain : Chain (N.take z) z N.length a f rs a'
/-- ahead of the steps of Open -/
def OpI (w5 : World) (B g c : Nat) (J : JS) (N : List (List UInt8)) : Nat → World → Prop
  | 0, w => DKeep B w5 w ∧ DevC w B g c N 0
  | 1, w => DKeep B w5 w ∧ DevC w B g (c + J.owed.length) (homeN N J.owed) J.owed.length
  | 2, w => DKeep B w5 w ∧ DevC w B g (c + J.owed.length + 1) (homeN N J.owed) 0
  | 3, w => DKeep B w5 w ∧ DevC w B g (c + J.owed.length + 2) (settleN J N) 1
  | _, w => DKeep B w5 w ∧ DevC w B g (c + J.owed.length + 3) (settleN J N) 0
theorem OpI.keep {w5 : World} {B g c : Nat} {J : JS} {N : List (List UInt8)} : ∀ {k : Nat} {w : World}, OpI w5 B g c J N k w → DKeep B w5 w
  | 0, _, h => h.1
  | 1, _, h => h.1
  | 2, _, h => h.1
  | 3, _, h => h.1
  | _ + 4, _, h => h.1
/-- while records are searched -/
def OpSt (W : World) (B g c : Nat) (N : List (List UInt8)) (z m f a : Nat) (A : Option Addr) (pb mk j num pos : Nat) (pre : List (List PutL)) (v : Value) (us : List Value) (wr : World) : Prop :=
  (B ≤ j ∧ DevC wr B g (c + 1) N 0) ∧ Blk wr j 68 (jrnC g { z := z, m := m, f := f, a := a, next := num, pos := pos, base := a, count := 0, owed := pre.flatten } v) ∧ (wr.ownsRow B 37 2 v pre.flatten.length (putsC pre.flatten us) ∧ SecVs wr (fun _ => True) us (pre.flatten.map (·.2))) ∧ RowsBlk wr A (N.take z) ∧ Blk wr pb 56 (placeC g z) ∧ Blk wr mk 61 (markW m f a) ∧ JKeep B W wr ∧ B ≤ wr.heap.size
/-- ahead of each search -/
def OpRel (W : World) (B g c : Nat) (N : List (List UInt8)) (z m f a a' : Nat) (rs : List (List PutL)) (A : Option Addr) (pb mk j : Nat) (wr : World) : Prop :=
  ∃ pre rest pos num v us, rs = pre ++ rest ∧ num = f + pre.length ∧ Chain (N.take z) z N.length pos num rest a' ∧ OpSt W B g c N z m f a A pb mk j num pos pre v us wr
section
variable {W : World} {B g c : Nat} {N : List (List UInt8)} {z m f a pb mk j num pos : Nat} {A : Option Addr} {pre : List (List PutL)} {v : Value} {us : List Value} {w w' : World}
theorem OpSt.below (h : OpSt W B g c N z m f a A pb mk j num pos pre v us w) (k : Below w.heap.size w w') : OpSt W B g c N z m f a A pb mk j num pos pre v us w' := by
  obtain ⟨⟨h0, h1⟩, h2, ⟨h3, h4⟩, h5, h6, h7, h8, h9⟩ := h
  exact ⟨⟨h0, h1.lift k⟩, h2.below k h2.lt, ⟨own_keep h3 k, h4.below k⟩, h5.below k, h6.below k h6.lt, h7.below k h7.lt, h8.trans (JKeep.of_below k h9), Nat.le_trans h9 k.size⟩
theorem OpSt.set (h : OpSt W B g c N z m f a A pb mk j num pos pre v us w) (i : Nat) (u : Value) {num' pos' : Nat} (he : (jrnC g { z := z, m := m, f := f, a := a, next := num, pos := pos, base := a, count := 0, owed := pre.flatten } v).setIfInBounds i u = jrnC g { z := z, m := m, f := f, a := a, next := num', pos := pos', base := a, count := 0, owed := pre.flatten } v) : OpSt W B g c N z m f a A pb mk j num' pos' pre v us (w.setCell ⟨j, i, none⟩ u) := by
  obtain ⟨⟨h0, h1⟩, h2, ⟨h3, h4⟩, h5, h6, h7, h8, h9⟩ := h
  have hk := JKeep.set h0 h2 i u
  exact ⟨⟨h0, h1.far h2 (by decide) (by decide) (by decide) (by decide) u⟩, by rw [← he]; exact h2.set_ i u, ⟨own_far h3 h2 (by decide) u, h4.far h2 (by decide) u⟩, h5.jkeep hk, hk.2 _ _ _ h6 (by decide) (by decide) (by decide) (by decide) (by decide), hk.2 _ _ _ h7 (by decide) (by decide) (by decide) (by decide) (by decide), h8.trans hk, Nat.le_trans h9 hk.1.size⟩
theorem OpSt.app {ps : List PutL} {uq : List Value} {v' : Value} (h : OpSt W B g c N z m f a A pb mk j num pos pre v us w) (hg : w.grownBy w' v.ownBlock) (ho : w'.ownsRow B 37 2 v' (pre.flatten.length + ps.length) (putsC pre.flatten us ++ putsC ps uq)) (hs : SecVs w (fun _ => True) uq (ps.map (·.2))) :
    OpSt W B g c N z m f a A pb mk j num pos (pre ++ [ps]) v' (us ++ uq) (w'.setCell ⟨j, 10, none⟩ v') ∧ Blk w' j 68 (jrnC g { z := z, m := m, f := f, a := a, next := num, pos := pos, base := a, count := 0, owed := pre.flatten } v) := by
  obtain ⟨⟨h0, h1⟩, h2, ⟨h3, h4⟩, h5, h6, h7, h8, h9⟩ := h
  have k : ∀ q cs t, Blk w q t cs → t ≠ 37 → Blk w' q t cs := fun q cs t hb ht => (Fr.of_grown hg).blk hb (fun e => own_blk_ne h3 hb (fun e => ht e.symm) e)
  have k2 := k _ _ _ h2 (by decide)
  have kj := JKeep.grown h9 h3 hg
  have ks := JKeep.set h0 k2 10 v'
  have kk := kj.trans ks
  have hfl : (pre ++ [ps]).flatten = pre.flatten ++ ps := by simp
  have hul : us.length = pre.flatten.length := by rw [h4.1, List.length_map]
  refine ⟨⟨⟨h0, (h1.types k).far k2 (by decide) (by decide) (by decide) (by decide) v'⟩, k2.set_ 10 v', ⟨?_, ?_⟩, h5.jkeep kk, kk.2 _ _ _ h6 (by decide) (by decide) (by decide) (by decide) (by decide), kk.2 _ _ _ h7 (by decide) (by decide) (by decide) (by decide) (by decide), h8.trans kk, Nat.le_trans h9 kk.1.size⟩, k2⟩
  · rw [hfl, List.length_append, putsC_append _ _ _ _ hul]
    exact own_far ho k2 (by decide) v'
  · rw [hfl, List.map_append]
    exact ((h4.append hs).own h3 (by decide) hg).far k2 (by decide) v'
theorem chain_step {ls : List (List UInt8)} {L a' : Nat} : ∀ {rest : List (List PutL)}, Chain ls z L pos num rest a' → ∃ b1 ps1, FoundR ls z L pos num b1 ps1 ∧ (b1 = true → ∃ rs', rest = ps1 :: rs' ∧ Chain ls z L (pos + (ps1.length + 2)) (num + 1) rs' a') ∧ (b1 = false → ∃ b2 ps2, FoundR ls z L 2 num b2 ps2 ∧ (b2 = true → ∃ rs', rest = ps2 :: rs' ∧ Chain ls z L (2 + (ps2.length + 2)) (num + 1) rs' a') ∧ (b2 = false → rest = [] ∧ a' = pos))
  | [], h => ⟨false, [], h.1, fun e => (by cases e), fun _ => ⟨false, [], h.2.1, fun e => (by cases e), fun _ => ⟨rfl, h.2.2⟩⟩⟩
  | ps :: rs, .inl h => ⟨true, ps, h.1, fun _ => ⟨rs, rfl, h.2⟩, fun e => (by cases e)⟩
  | ps :: rs, .inr h => ⟨false, [], h.1, fun e => (by cases e), fun _ => ⟨true, ps, h.2.1, fun _ => ⟨rs, rfl, h.2.2⟩, fun e => (by cases e)⟩⟩
end
section
variable {W : World} {B g c : Nat} {N : List (List UInt8)}
set_option maxRecDepth 100000 in
set_option maxHeartbeats 4000000 in
theorem open_any {z m f a a' : Nat} {rs : List (List PutL)} (hD : DevC W B g c N 0) (hB : B ≤ W.heap.size) (hc : c + 5000 < 1048576) (hok : OpenOk N z m f a a' rs) :
    Calls Try.prog 7 #[.pointer (some ⟨g, 0, none⟩), .int .i64 0, .int .i64 (z : Int)] W fun e W' => ∃ j, e = .returned (.tuple #[.pointer (some ⟨j, 0, none⟩), .int .i64 (rs.length : Int), .int .i64 0]) ∧ JAt W' B W'.heap.size j g (openJ z m f a a' rs) ∧ DevC W' B g (c + rs.flatten.length + 4) (openN z m f a a' rs N) 0 ∧ JKeep B W W' := by
  have HOK := hide hok
  have HDV := hide hD
  have HR := hide (right_any hD z hok.z5 hok.zN)
  have hz16 : z ≤ 65536 := Nat.le_trans hok.zN hD.all.2
  have hzp := fun W' => zero_place W'
  have HAL : Hid (Below W.heap.size W (W.alloc (.cells (placeC g z) 56))) := (Below.refl _ _).alloc (Nat.le_refl _) _
  have HPB := hide (Blk.new W 56 (placeC g z))
  obtain ⟨w1, hw1⟩ : ∃ w1, W.alloc (.cells (placeC g z) 56) = w1 := ⟨_, rfl⟩
  rw [hw1] at HAL HPB
  unfold placeC at hw1
  have HRD := hide ((hD.lift HAL.out).read (by omega) 0 z (by have := hok.zN; omega))
  rw [show ((0 : Nat) : Int) = 0 from rfl] at HRD
  clear hD hok
  go_enter Try.func7, Try.ntmps7
  go_wp2_with (go_at_call 14; refine (unhide HR).mono ?_; rintro e w' ⟨rfl, rfl⟩)
  refine (unhide HRD).mono ?_
  rintro e w2 ⟨A, k, rfl, hr2, hd2, hk2⟩
  rw [List.drop_zero] at hr2
  have HRA := hide hr2
  have HD2 := hide hd2
  have HK2 : Hid (JKeep B W w2) := (JKeep.of_below HAL.out hB).trans (JKeep.of_dkeep hk2)
  have HPB2 := hide (hk2.2 _ _ _ HPB.out (by decide) (by decide) (by decide))
  have hlz : (N.take z).length = z := by rw [List.length_take]; have := HOK.out.zN; omega
  obtain ⟨b0, b1, m0, f0, a0, x0, m1, f1, a1, x1, hb0, hb1, hk0, hk1, hnr⟩ := HOK.out.marks
  have h5 := HOK.out.z5
  have HNW := hide (newest_any (k := k) hr2 hlz.symm (by omega) (by rw [List.getElem?_take_of_lt (by omega)]; exact hb0) (by rw [List.getElem?_take_of_lt (by omega)]; exact hb1) (by rw [hlz]; exact hk0) (by rw [hlz]; exact hk1))
  rw [hnr] at HNW
  simp only [] at HNW
  clear hr2 hd2 hk2 hb0 hb1 hk0 hk1 hnr HRD HR HDV HPB hzp HAL hw1
  go_wp2_with fail
  refine (unhide HNW).mono ?_
  rintro e w3 ⟨rfl, hb3⟩
  have HRA3 := hide (HRA.out.below hb3)
  have HD3 := hide (HD2.out.lift hb3)
  have HPB3 := hide (HPB2.out.below hb3 HPB2.out.lt)
  have HK3 : Hid (JKeep B W w3) := HK2.out.trans (JKeep.of_below hb3 (Nat.le_trans hB HK2.out.1.size))
  clear hb3 HNW HRA HD2 HPB2 HK2
  have hz := fun W' => zero_mark3 W'
  have hal : Below w3.heap.size w3 (w3.alloc (.cells (markW m f a) 61)) := (Below.refl _ _).alloc (Nat.le_refl _) _
  have HMB := hide (Blk.new w3 61 (markW m f a))
  have HRA4 := hide (HRA3.out.below hal)
  have HD4 := hide (HD3.out.lift hal)
  have HPB4 := hide (HPB3.out.below hal HPB3.out.lt)
  have hB3 : B ≤ w3.heap.size := Nat.le_trans hB HK3.out.1.size
  have HK4 : Hid (JKeep B W (w3.alloc (.cells (markW m f a) 61))) := HK3.out.trans (JKeep.of_below hal hB3)
  obtain ⟨w4, hw4⟩ : ∃ w4, w3.alloc (.cells (markW m f a) 61) = w4 := ⟨_, rfl⟩
  have hB4 : B ≤ w4.heap.size := by rw [← hw4]; exact Nat.le_trans hB3 hal.size
  clear hal HRA3 HD3 HPB3 HK3
  rw [hw4] at HMB HRA4 HD4 HPB4 HK4
  unfold markW markI at hw4
  have p0 : w4.cell? ⟨W.heap.size, 0, none⟩ = some (.pointer (some ⟨g, 0, none⟩)) := HPB4.out.cell 0
  have p1 : w4.cell? ⟨W.heap.size, 1, none⟩ = some (.int .i64 0) := HPB4.out.cell 1
  have p2 : w4.cell? ⟨W.heap.size, 2, none⟩ = some (.int .i64 (z : Int)) := HPB4.out.cell 2
  have k0 : w4.cell? ⟨w3.heap.size, 0, none⟩ = some (.int .i64 (m : Int)) := HMB.out.cell 0
  have k1 : w4.cell? ⟨w3.heap.size, 1, none⟩ = some (.int .i64 (f : Int)) := HMB.out.cell 1
  have k2 : w4.cell? ⟨w3.heap.size, 2, none⟩ = some (.int .i64 (a : Int)) := HMB.out.cell 2
  have hbj := build_jrn w4 g z (m : Int) (f : Int) (a : Int)
  unfold placeC markI at hbj
  unfold markW markI
  go_wp2_with fail
  clear p0 p1 p2 k0 k1 k2 hbj hw4 hz
  have hal : Below w4.heap.size w4 (w4.alloc (.cells (jrnC g { z := z, m := m, f := f, a := a, next := f, pos := a, base := a, count := 0, owed := [] } (.slice none 0 0)) 68)) := (Below.refl _ _).alloc (Nat.le_refl _) _
  have hbl := Blk.new w4 68 (jrnC g { z := z, m := m, f := f, a := a, next := f, pos := a, base := a, count := 0, owed := [] } (.slice none 0 0))
  have HREL : Hid (OpRel W B g c N z m f a a' rs A W.heap.size w3.heap.size w4.heap.size (w4.alloc (.cells (jrnC g { z := z, m := m, f := f, a := a, next := f, pos := a, base := a, count := 0, owed := [] } (.slice none 0 0)) 68))) :=
    ⟨[], rs, a, f, .slice none 0 0, [], rfl, rfl, HOK.out.chain, ⟨hB4, HD4.out.lift hal⟩, hbl, ⟨World.ownsRow_nil _ _ _ _, .nil⟩, HRA4.out.below hal, HPB4.out.below hal HPB4.out.lt, HMB.out.below hal HMB.out.lt, HK4.out.trans (JKeep.of_below hal hB4), Nat.le_trans hB4 hal.size⟩
  clear hal hbl HRA4 HD4 HPB4 HMB HK4
  unfold jrnC at HREL
  obtain ⟨w5, hw5⟩ : ∃ w5, w4.alloc (.cells #[.pointer (some ⟨g, 0, none⟩), .int .i64 0, .int .i64 (z : Int), .int .i64 (m : Int), .int .i64 (f : Int), .int .i64 (a : Int), .int .i64 (f : Int), .int .i64 (a : Int), .int .i64 (a : Int), .bool false, .slice none 0 0, .int .i64 ((0 : Nat) : Int)] 68) = w5 := ⟨_, rfl⟩
  rw [hw5] at HREL
  simp only [Int.natCast_zero] at hw5
  rw [hw5]
  clear hw5
  go_loopw [17] (fun s17 wr => OpRel W B g c N z m f a a' rs A W.heap.size w3.heap.size w4.heap.size wr) (fun _ wr => (f + rs.length) - (intOf ((wr.cell? ⟨w4.heap.size, 6, none⟩).getD undef)).toNat)
  case atStart => exact HREL.out
  case round =>
    clear HREL
    obtain ⟨pre, rest, pos, num, v, us, hrs, hnum, hch, hst⟩ := hrel
    have HST := hide hst
    have HCH := hide hch
    have HRS := hide hrs
    have HNUM := hide hnum
    have hnb : num < 65000 := by
      have := HOK.out.fb
      rw [hrs, List.length_append] at this
      omega
    clear hst hch hrs hnum
    obtain ⟨b1, ps1, hf1, ht1, hn1⟩ := chain_step HCH.out
    have HSX : Hid (∀ x, Below wr.heap.size wr x → (x.cell? ⟨W.heap.size, 0, none⟩ = some (.pointer (some ⟨g, 0, none⟩)) ∧ x.cell? ⟨W.heap.size, 1, none⟩ = some (.int .i64 0) ∧ x.cell? ⟨W.heap.size, 2, none⟩ = some (.int .i64 (z : Int))) ∧ x.cell? ⟨w4.heap.size, 6, none⟩ = some (.int .i64 (num : Int)) ∧ x.cell? ⟨w4.heap.size, 7, none⟩ = some (.int .i64 (pos : Int))) := fun x hx => by
      obtain ⟨_, h2, _, _, h6, _⟩ := HST.out.below hx
      exact ⟨⟨h6.cell 0, h6.cell 1, h6.cell 2⟩, h2.cell 6, h2.cell 7⟩
    have HF1 := hide hf1
    have HT1 := hide ht1
    have HN1 := hide hn1
    clear hf1 ht1 hn1
    go_wp2_with fail
    refine region_U (fun x => (x.cell? ⟨W.heap.size, 0, none⟩ = some (.pointer (some ⟨g, 0, none⟩)) ∧ x.cell? ⟨W.heap.size, 1, none⟩ = some (.int .i64 0) ∧ x.cell? ⟨W.heap.size, 2, none⟩ = some (.int .i64 (z : Int))) ∧ x.cell? ⟨w4.heap.size, 6, none⟩ = some (.int .i64 (num : Int)) ∧ x.cell? ⟨w4.heap.size, 7, none⟩ = some (.int .i64 (pos : Int))) 15 (by kernel_rfl) ?_
    intro Y hY
    have HBY : Hid (Below wr.heap.size wr Y) := by rw [hY]; exact (Below.refl _ _).drew
    have HSY := hide (HSX.out Y HBY.out)
    clear hY
    refine takeV 16 0 (.agg (placeC g z)) rfl (by kernel_rfl) (fun _ _ _ h => h) (by rfl) (fun x hS => exec_load 56 (.tmp 10) rfl (load_place x W.heap.size 0 g z hS.1.1 hS.1.2.1 hS.1.2.2) rfl) HSY.out ?_
    simp only [Act.put, List.getElem_toArray, List.getElem_cons_succ, List.getElem_cons_zero, List.setIfInBounds_toArray, List.set_cons_zero, List.set_cons_succ]
    refine takeV 16 1 (.slice A z k) rfl (by kernel_rfl) (fun _ _ _ h => h) (by rfl) (fun x hS => by
      obtain ⟨s0, s1, s2⟩ := hS
      go_simp) HSY.out ?_
    simp only [Act.put, List.getElem_toArray, List.getElem_cons_succ, List.getElem_cons_zero, List.setIfInBounds_toArray, List.set_cons_zero, List.set_cons_succ]
    refine takeV 16 2 (.pointer (some ⟨w4.heap.size, 0, none⟩)) rfl (by kernel_rfl) (fun _ _ _ h => h) (by rfl) (fun x hS => by
      obtain ⟨s0, s1, s2⟩ := hS
      go_simp) HSY.out ?_
    simp only [Act.put, List.getElem_toArray, List.getElem_cons_succ, List.getElem_cons_zero, List.setIfInBounds_toArray, List.set_cons_zero, List.set_cons_succ]
    refine takeV 16 3 (.pointer (some ⟨w4.heap.size, 0, none⟩)) rfl (by kernel_rfl) (fun _ _ _ h => h) (by rfl) (fun x hS => by
      obtain ⟨s0, s1, s2⟩ := hS
      go_simp) HSY.out ?_
    simp only [Act.put, List.getElem_toArray, List.getElem_cons_succ, List.getElem_cons_zero, List.setIfInBounds_toArray, List.set_cons_zero, List.set_cons_succ]
    refine takeV 16 4 (.pointer (some ⟨w4.heap.size, 7, none⟩)) rfl (by kernel_rfl) (fun _ _ _ h => h) (by rfl) (fun x hS => by
      obtain ⟨s0, s1, s2⟩ := hS
      go_simp) HSY.out ?_
    simp only [Act.put, List.getElem_toArray, List.getElem_cons_succ, List.getElem_cons_zero, List.setIfInBounds_toArray, List.set_cons_zero, List.set_cons_succ]
    refine takeV 16 5 (.int .i64 (pos : Int)) rfl (by kernel_rfl) (fun _ _ _ h => h) (by rfl) (fun x hS => by
      obtain ⟨s0, s1, s2⟩ := hS
      go_simp) HSY.out ?_
    simp only [Act.put, List.getElem_toArray, List.getElem_cons_succ, List.getElem_cons_zero, List.setIfInBounds_toArray, List.set_cons_zero, List.set_cons_succ]
    refine takeV 16 6 (.pointer (some ⟨w4.heap.size, 0, none⟩)) rfl (by kernel_rfl) (fun _ _ _ h => h) (by rfl) (fun x hS => by
      obtain ⟨s0, s1, s2⟩ := hS
      go_simp) HSY.out ?_
    simp only [Act.put, List.getElem_toArray, List.getElem_cons_succ, List.getElem_cons_zero, List.setIfInBounds_toArray, List.set_cons_zero, List.set_cons_succ]
    refine takeV 16 7 (.pointer (some ⟨w4.heap.size, 0, none⟩)) rfl (by kernel_rfl) (fun _ _ _ h => h) (by rfl) (fun x hS => by
      obtain ⟨s0, s1, s2⟩ := hS
      go_simp) HSY.out ?_
    simp only [Act.put, List.getElem_toArray, List.getElem_cons_succ, List.getElem_cons_zero, List.setIfInBounds_toArray, List.set_cons_zero, List.set_cons_succ]
    refine takeV 16 8 (.pointer (some ⟨w4.heap.size, 6, none⟩)) rfl (by kernel_rfl) (fun _ _ _ h => h) (by rfl) (fun x hS => by
      obtain ⟨s0, s1, s2⟩ := hS
      go_simp) HSY.out ?_
    simp only [Act.put, List.getElem_toArray, List.getElem_cons_succ, List.getElem_cons_zero, List.setIfInBounds_toArray, List.set_cons_zero, List.set_cons_succ]
    refine takeV 16 9 (.int .i64 (num : Int)) rfl (by kernel_rfl) (fun _ _ _ h => h) (by rfl) (fun x hS => by
      obtain ⟨s0, s1, s2⟩ := hS
      go_simp) HSY.out ?_
    simp only [Act.put, List.getElem_toArray, List.getElem_cons_succ, List.getElem_cons_zero, List.setIfInBounds_toArray, List.set_cons_zero, List.set_cons_succ]
    have HSTY := hide (HST.out.below HBY.out)
    have HFC := hide (found_any (k := k) HSTY.out.2.2.2.1 HSTY.out.1.2 hlz.symm (by rw [hlz]; omega) (by omega) HF1.out)
    refine oneU 10 rfl (by kernel_rfl) (by rfl) ?_
    go_wp2_with fail
    refine (unhide HFC).mono ?_
    rintro e wa ⟨A', c', rfl, hpa, hbw⟩
    have HPAwa := hide hpa
    have HBwa : Hid (Below wr.heap.size wr wa) := HBY.out.trans (hbw.mono HBY.out.size)
    have HSTwa := hide (HST.out.below HBwa.out)
    have HSS := hide (HSX.out wa HBwa.out)
    clear hpa hbw HFC HSTY HBY HSY
    refine ⟨(by first | exact fun _ => HSS.out | exact HSS.out), ?_⟩
    try simp only [Act.put, List.getElem_toArray, List.getElem_cons_succ, List.getElem_cons_zero, List.setIfInBounds_toArray, List.set_cons_zero, List.set_cons_succ]
    refine oneU 11 rfl (by kernel_rfl) (by rfl) ?_
    go_wp2_with fail
    refine ⟨(by first | exact fun _ => HSS.out | exact HSS.out), ?_⟩
    try simp only [Act.put, List.getElem_toArray, List.getElem_cons_succ, List.getElem_cons_zero, List.setIfInBounds_toArray, List.set_cons_zero, List.set_cons_succ]
    refine takeV 16 12 (.slice A' ps1.length c') rfl (by kernel_rfl) (fun _ _ _ h => h) (by rfl) (fun x hS => by
      go_simp) HSS.out ?_
    simp only [Act.put, List.getElem_toArray, List.getElem_cons_succ, List.getElem_cons_zero, List.setIfInBounds_toArray, List.set_cons_zero, List.set_cons_succ]
    refine takeV 16 13 (.bool b1) rfl (by kernel_rfl) (fun _ _ _ h => h) (by rfl) (fun x hS => by
      go_simp) HSS.out ?_
    simp only [Act.put, List.getElem_toArray, List.getElem_cons_succ, List.getElem_cons_zero, List.setIfInBounds_toArray, List.set_cons_zero, List.set_cons_succ]
    refine oneU 14 rfl (by kernel_rfl) (by rfl) ?_
    go_wp2_with fail
    refine ⟨(by first | exact fun _ => HSS.out | exact HSS.out), ?_⟩
    try simp only [Act.put, List.getElem_toArray, List.getElem_cons_succ, List.getElem_cons_zero, List.setIfInBounds_toArray, List.set_cons_zero, List.set_cons_succ]
    refine oneU 15 rfl (by kernel_rfl) (by rfl) ?_
    go_wp2_with fail
    refine doneU (by kernel_rfl) ?_ _
    have q7 : wa.cell? ⟨w4.heap.size, 7, none⟩ = some (.int .i64 (pos : Int)) := HSS.out.2.2
    clear HSS HSX
    cases b1 with
    | true =>
      obtain ⟨rs', hrest, hch'⟩ := HT1.out rfl
      obtain ⟨hP2, hP6, hgd⟩ := HF1.out
      have hgood : GoodP z N.length ps1 := by
        rcases hgd with ⟨_, h, _⟩ | ⟨h, _⟩
        · exact h
        · cases h
      have hl1 := hgood.1
      have hl2 := hgood.2.1
      have HCHX := hide hch'
      have q6 : wa.cell? ⟨w4.heap.size, 6, none⟩ = some (.int .i64 (num : Int)) := HSTwa.out.2.1.cell 6
      have q7 : wa.cell? ⟨w4.heap.size, 7, none⟩ = some (.int .i64 (pos : Int)) := HSTwa.out.2.1.cell 7
      have z7 := HSTwa.out.2.1.frozen 7
      have HSTB := hide (HSTwa.out.set 7 (.int .i64 ((pos : Int) + ((ps1.length : Int) + 2))) (num' := num) (pos' := pos + (ps1.length + 2)) rfl)
      have HPAB := hide (HPAwa.out.keep2 (PKeep.set HSTwa.out.2.1 (by decide) 7 (.int .i64 ((pos : Int) + ((ps1.length : Int) + 2)))) (JKeep.set HSTwa.out.1.1 HSTwa.out.2.1 7 (.int .i64 ((pos : Int) + ((ps1.length : Int) + 2)))))
      have HW6 : Hid (wr.cell? ⟨w4.heap.size, 6, none⟩ = some (.int .i64 (num : Int))) := HST.out.2.1.cell 6
      clear hch' hgd hgood
      go_upto_region 20 with fail
      clear q6 q7 z7
      obtain ⟨wB, hwB⟩ : ∃ wB, wa.setCell ⟨w4.heap.size, 7, none⟩ (.int .i64 ((pos : Int) + ((ps1.length : Int) + 2))) = wB := ⟨_, rfl⟩
      rw [hwB] at HSTB HPAB ⊢
      clear hwB
      obtain ⟨uq, hsq, hrq, hoq⟩ := HPAB.out.reads
      have HSQ := hide hsq
      have HRQ := hide hrq
      have HOQ := hide hoq
      have HOWB := hide HSTB.out.2.2.1.1
      have hBB := HSTB.out.2.2.2.2.2.2.2
      have q10 : wB.cell? ⟨w4.heap.size, 10, none⟩ = some v := HSTB.out.2.1.cell 10
      have hpl : pre.flatten.length ≤ 1000 := by
        have := HOK.out.owed
        rw [HRS.out, List.flatten_append, List.length_append] at this
        omega
      have hnum2 : num < f + rs.length := by
        rw [HRS.out, hrest, HNUM.out, List.length_append, List.length_cons]
        omega
      clear hsq hrq hoq
      obtain ⟨ip, hip, hp0, hp1, hp2⟩ := info_parts info_put
      have HIP := hide hip
      clear hip
      obtain ⟨nq, hnq⟩ : ∃ nq, pre.flatten.length + ps1.length = nq := ⟨_, rfl⟩
      have HNQ := hide hnq
      clear hnq
      go_wp2_with (at_builtin; refine wpList_append_any _ rfl (.tmp 111) (.tmp 112) _ rfl B 37 ip _ 2 32 Try.underlying66 HIP.out hp0 hp1 hp2 rfl (by omega) v pre.flatten.length (putsC pre.flatten us) rfl HOWB.out wB.heap.size A' ps1.length c' (putsC ps1 uq) rfl HRQ.out HOQ.out (by simp only [maxLen]; omega) (by omega) hBB ?_; intro v9 W9 hown9 hg9 hat9; obtain ⟨A9, c9, e9⟩ := own_form hown9; rw [HNQ.out] at e9; subst e9; have y10 : W9.cell? ⟨w4.heap.size, 10, none⟩ = some v := (HSTB.out.app hg9 hown9 HSQ.out).2.cell 10; have z10 := (HSTB.out.app hg9 hown9 HSQ.out).2.frozen 10; have y6 : W9.cell? ⟨w4.heap.size, 6, none⟩ = some (.int .i64 (num : Int)) := (HSTB.out.app hg9 hown9 HSQ.out).2.cell 6; have z6 := (HSTB.out.app hg9 hown9 HSQ.out).2.frozen 6; have HSTC := hide (HSTB.out.app hg9 hown9 HSQ.out).1; clear hown9 hg9 hat9)
      have HSTE := hide (HSTC.out.set 6 (.int .i64 ((num : Int) + 1)) (num' := num + 1) (pos' := pos + (ps1.length + 2)) rfl)
      have HE6 : Hid (World.cell? _ ⟨w4.heap.size, 6, none⟩ = some (.int .i64 ((num + 1 : Nat) : Int))) := HSTE.out.2.1.cell 6
      go_roundw
      case rel =>
        exact ⟨pre ++ [ps1], rs', pos + (ps1.length + 2), num + 1, _, _, by rw [HRS.out, hrest]; simp, by rw [HNUM.out]; simp; omega, HCHX.out, HSTE.out⟩
      case measure =>
        rw [HW6.out, HE6.out]
        simp [intOf]
        omega
    | false =>
      obtain ⟨b2, ps2, hf2, ht2, hn2⟩ := HN1.out rfl
      have HF2 := hide hf2
      have HT2 := hide ht2
      have HN2 := hide hn2
      have HW7 : Hid (2 ≤ pos ∧ pos < 65536) := ⟨HF1.out.1, HF1.out.2.1⟩
      have y7 := q7
      have z7 := HSTwa.out.2.1.frozen 7
      have HSTt := hide (HSTwa.out.set 7 (.int .i64 2) (num' := num) (pos' := 2) rfl)
      clear hf2 ht2 hn2
      go_upto_region 16 with fail
      clear q7 y7 z7
      obtain ⟨wt, hwt⟩ : ∃ wt, wa.setCell ⟨w4.heap.size, 7, none⟩ (.int .i64 2) = wt := ⟨_, rfl⟩
      rw [hwt] at HSTt ⊢
      clear hwt
      have HSX2 : Hid (∀ x, Below wt.heap.size wt x → (x.cell? ⟨W.heap.size, 0, none⟩ = some (.pointer (some ⟨g, 0, none⟩)) ∧ x.cell? ⟨W.heap.size, 1, none⟩ = some (.int .i64 0) ∧ x.cell? ⟨W.heap.size, 2, none⟩ = some (.int .i64 (z : Int))) ∧ x.cell? ⟨w4.heap.size, 6, none⟩ = some (.int .i64 (num : Int))) := fun x hx => by
        obtain ⟨_, h2, _, _, h6, _⟩ := HSTt.out.below hx
        exact ⟨⟨h6.cell 0, h6.cell 1, h6.cell 2⟩, h2.cell 6⟩
      refine region_U (fun x => (x.cell? ⟨W.heap.size, 0, none⟩ = some (.pointer (some ⟨g, 0, none⟩)) ∧ x.cell? ⟨W.heap.size, 1, none⟩ = some (.int .i64 0) ∧ x.cell? ⟨W.heap.size, 2, none⟩ = some (.int .i64 (z : Int))) ∧ x.cell? ⟨w4.heap.size, 6, none⟩ = some (.int .i64 (num : Int))) 11 (by kernel_rfl) ?_
      intro Y hY
      have HBY : Hid (Below wt.heap.size wt Y) := by rw [hY]; exact (Below.refl _ _).drew
      have HSY := hide (HSX2.out Y HBY.out)
      clear hY
      refine takeV 12 0 (.agg (placeC g z)) rfl (by kernel_rfl) (fun _ _ _ h => h) (by rfl) (fun x hS => exec_load 56 (.tmp 10) rfl (load_place x W.heap.size 0 g z hS.1.1 hS.1.2.1 hS.1.2.2) rfl) HSY.out ?_
      simp only [Act.put, List.getElem_toArray, List.getElem_cons_succ, List.getElem_cons_zero, List.setIfInBounds_toArray, List.set_cons_zero, List.set_cons_succ]
      refine takeV 12 1 (.slice A z k) rfl (by kernel_rfl) (fun _ _ _ h => h) (by rfl) (fun x hS => by
        obtain ⟨s0, s1⟩ := hS
        go_simp) HSY.out ?_
      simp only [Act.put, List.getElem_toArray, List.getElem_cons_succ, List.getElem_cons_zero, List.setIfInBounds_toArray, List.set_cons_zero, List.set_cons_succ]
      refine takeV 12 2 (.pointer (some ⟨w4.heap.size, 0, none⟩)) rfl (by kernel_rfl) (fun _ _ _ h => h) (by rfl) (fun x hS => by
        obtain ⟨s0, s1⟩ := hS
        go_simp) HSY.out ?_
      simp only [Act.put, List.getElem_toArray, List.getElem_cons_succ, List.getElem_cons_zero, List.setIfInBounds_toArray, List.set_cons_zero, List.set_cons_succ]
      refine takeV 12 3 (.pointer (some ⟨w4.heap.size, 0, none⟩)) rfl (by kernel_rfl) (fun _ _ _ h => h) (by rfl) (fun x hS => by
        obtain ⟨s0, s1⟩ := hS
        go_simp) HSY.out ?_
      simp only [Act.put, List.getElem_toArray, List.getElem_cons_succ, List.getElem_cons_zero, List.setIfInBounds_toArray, List.set_cons_zero, List.set_cons_succ]
      refine takeV 12 4 (.pointer (some ⟨w4.heap.size, 6, none⟩)) rfl (by kernel_rfl) (fun _ _ _ h => h) (by rfl) (fun x hS => by
        obtain ⟨s0, s1⟩ := hS
        go_simp) HSY.out ?_
      simp only [Act.put, List.getElem_toArray, List.getElem_cons_succ, List.getElem_cons_zero, List.setIfInBounds_toArray, List.set_cons_zero, List.set_cons_succ]
      refine takeV 12 5 (.int .i64 (num : Int)) rfl (by kernel_rfl) (fun _ _ _ h => h) (by rfl) (fun x hS => by
        obtain ⟨s0, s1⟩ := hS
        go_simp) HSY.out ?_
      simp only [Act.put, List.getElem_toArray, List.getElem_cons_succ, List.getElem_cons_zero, List.setIfInBounds_toArray, List.set_cons_zero, List.set_cons_succ]
      have HSTY := hide (HSTt.out.below HBY.out)
      have HFC := hide (found_any (k := k) HSTY.out.2.2.2.1 HSTY.out.1.2 hlz.symm (by rw [hlz]; omega) (by omega) HF2.out)
      rw [show ((2 : Nat) : Int) = 2 from rfl] at HFC
      refine oneU 6 rfl (by kernel_rfl) (by rfl) ?_
      go_wp2_with fail
      refine (unhide HFC).mono ?_
      rintro e wb ⟨A', c', rfl, hpa, hbw⟩
      have HPAwb := hide hpa
      have HBwb : Hid (Below wt.heap.size wt wb) := HBY.out.trans (hbw.mono HBY.out.size)
      have HSTwb := hide (HSTt.out.below HBwb.out)
      have HSS := hide (HSX2.out wb HBwb.out)
      clear hpa hbw HFC HSTY HBY HSY
      refine ⟨(by first | exact fun _ => HSS.out | exact HSS.out), ?_⟩
      try simp only [Act.put, List.getElem_toArray, List.getElem_cons_succ, List.getElem_cons_zero, List.setIfInBounds_toArray, List.set_cons_zero, List.set_cons_succ]
      refine oneU 7 rfl (by kernel_rfl) (by rfl) ?_
      go_wp2_with fail
      refine ⟨(by first | exact fun _ => HSS.out | exact HSS.out), ?_⟩
      try simp only [Act.put, List.getElem_toArray, List.getElem_cons_succ, List.getElem_cons_zero, List.setIfInBounds_toArray, List.set_cons_zero, List.set_cons_succ]
      refine takeV 12 8 (.slice A' ps2.length c') rfl (by kernel_rfl) (fun _ _ _ h => h) (by rfl) (fun x hS => by
        go_simp) HSS.out ?_
      simp only [Act.put, List.getElem_toArray, List.getElem_cons_succ, List.getElem_cons_zero, List.setIfInBounds_toArray, List.set_cons_zero, List.set_cons_succ]
      refine takeV 12 9 (.bool b2) rfl (by kernel_rfl) (fun _ _ _ h => h) (by rfl) (fun x hS => by
        go_simp) HSS.out ?_
      simp only [Act.put, List.getElem_toArray, List.getElem_cons_succ, List.getElem_cons_zero, List.setIfInBounds_toArray, List.set_cons_zero, List.set_cons_succ]
      refine oneU 10 rfl (by kernel_rfl) (by rfl) ?_
      go_wp2_with fail
      refine ⟨(by first | exact fun _ => HSS.out | exact HSS.out), ?_⟩
      try simp only [Act.put, List.getElem_toArray, List.getElem_cons_succ, List.getElem_cons_zero, List.setIfInBounds_toArray, List.set_cons_zero, List.set_cons_succ]
      refine oneU 11 rfl (by kernel_rfl) (by rfl) ?_
      go_wp2_with fail
      refine doneU (by kernel_rfl) ?_ _
      clear HSS
      clear HSX2
      cases b2 with
      | true =>
        have HW6' : Hid (wr.cell? ⟨w4.heap.size, 6, none⟩ = some (.int .i64 (num : Int))) := HST.out.2.1.cell 6
        obtain ⟨rs', hrest, hch'⟩ := HT2.out rfl
        obtain ⟨hP2, hP6, hgd⟩ := HF2.out
        have hgood : GoodP z N.length ps2 := by
          rcases hgd with ⟨_, h, _⟩ | ⟨h, _⟩
          · exact h
          · cases h
        have hl1 := hgood.1
        have hl2 := hgood.2.1
        have HCHX := hide hch'
        have q6 : wb.cell? ⟨w4.heap.size, 6, none⟩ = some (.int .i64 (num : Int)) := HSTwb.out.2.1.cell 6
        have q7 : wb.cell? ⟨w4.heap.size, 7, none⟩ = some (.int .i64 (2 : Int)) := HSTwb.out.2.1.cell 7
        have z7 := HSTwb.out.2.1.frozen 7
        have HSTB := hide (HSTwb.out.set 7 (.int .i64 ((2 : Int) + ((ps2.length : Int) + 2))) (num' := num) (pos' := 2 + (ps2.length + 2)) rfl)
        have HPAB := hide (HPAwb.out.keep2 (PKeep.set HSTwb.out.2.1 (by decide) 7 (.int .i64 ((2 : Int) + ((ps2.length : Int) + 2)))) (JKeep.set HSTwb.out.1.1 HSTwb.out.2.1 7 (.int .i64 ((2 : Int) + ((ps2.length : Int) + 2)))))
        have HW6 : Hid (wr.cell? ⟨w4.heap.size, 6, none⟩ = some (.int .i64 (num : Int))) := HST.out.2.1.cell 6
        clear hch' hgd hgood
        go_upto_region 20 with fail
        clear q6 q7 z7
        obtain ⟨wB, hwB⟩ : ∃ wB, wb.setCell ⟨w4.heap.size, 7, none⟩ (.int .i64 ((2 : Int) + ((ps2.length : Int) + 2))) = wB := ⟨_, rfl⟩
        rw [hwB] at HSTB HPAB ⊢
        clear hwB
        obtain ⟨uq, hsq, hrq, hoq⟩ := HPAB.out.reads
        have HSQ := hide hsq
        have HRQ := hide hrq
        have HOQ := hide hoq
        have HOWB := hide HSTB.out.2.2.1.1
        have hBB := HSTB.out.2.2.2.2.2.2.2
        have q10 : wB.cell? ⟨w4.heap.size, 10, none⟩ = some v := HSTB.out.2.1.cell 10
        have hpl : pre.flatten.length ≤ 1000 := by
          have := HOK.out.owed
          rw [HRS.out, List.flatten_append, List.length_append] at this
          omega
        have hnum2 : num < f + rs.length := by
          rw [HRS.out, hrest, HNUM.out, List.length_append, List.length_cons]
          omega
        clear hsq hrq hoq
        obtain ⟨ip, hip, hp0, hp1, hp2⟩ := info_parts info_put
        have HIP := hide hip
        clear hip
        obtain ⟨nq, hnq⟩ : ∃ nq, pre.flatten.length + ps2.length = nq := ⟨_, rfl⟩
        have HNQ := hide hnq
        clear hnq
        go_wp2_with (at_builtin; refine wpList_append_any _ rfl (.tmp 111) (.tmp 112) _ rfl B 37 ip _ 2 32 Try.underlying66 HIP.out hp0 hp1 hp2 rfl (by omega) v pre.flatten.length (putsC pre.flatten us) rfl HOWB.out wB.heap.size A' ps2.length c' (putsC ps2 uq) rfl HRQ.out HOQ.out (by simp only [maxLen]; omega) (by omega) hBB ?_; intro v9 W9 hown9 hg9 hat9; obtain ⟨A9, c9, e9⟩ := own_form hown9; rw [HNQ.out] at e9; subst e9; have y10 : W9.cell? ⟨w4.heap.size, 10, none⟩ = some v := (HSTB.out.app hg9 hown9 HSQ.out).2.cell 10; have z10 := (HSTB.out.app hg9 hown9 HSQ.out).2.frozen 10; have y6 : W9.cell? ⟨w4.heap.size, 6, none⟩ = some (.int .i64 (num : Int)) := (HSTB.out.app hg9 hown9 HSQ.out).2.cell 6; have z6 := (HSTB.out.app hg9 hown9 HSQ.out).2.frozen 6; have HSTC := hide (HSTB.out.app hg9 hown9 HSQ.out).1; clear hown9 hg9 hat9)
        have HSTE := hide (HSTC.out.set 6 (.int .i64 ((num : Int) + 1)) (num' := num + 1) (pos' := 2 + (ps2.length + 2)) rfl)
        have HE6 : Hid (World.cell? _ ⟨w4.heap.size, 6, none⟩ = some (.int .i64 ((num + 1 : Nat) : Int))) := HSTE.out.2.1.cell 6
        go_roundw
        case rel =>
          exact ⟨pre ++ [ps2], rs', 2 + (ps2.length + 2), num + 1, _, _, by rw [HRS.out, hrest]; simp, by rw [HNUM.out]; simp; omega, HCHX.out, HSTE.out⟩
        case measure =>
          rw [HW6.out, HE6.out]
          simp [intOf]
          omega
      | false =>
        obtain ⟨hrest, ha'⟩ := HN2.out rfl
        have y7 : wb.cell? ⟨w4.heap.size, 7, none⟩ = some (.int .i64 2) := HSTwb.out.2.1.cell 7
        have z7 := HSTwb.out.2.1.frozen 7
        have HSTe := hide (HSTwb.out.set 7 (.int .i64 (pos : Int)) (num' := num) (pos' := pos) rfl)
        have hpre : rs = pre := by rw [HRS.out, hrest, List.append_nil]
        have HPRE := hide hpre
        have HSB : Hid (IntKind.i64.wrap ((num : Int) - (f : Int)) = (rs.length : Int)) := (by have h1 := HNUM.out; have h2 := HOK.out.fb; rw [hpre] at h2 ⊢; rw [h1, IntKind.wrap_i64]; omega : IntKind.i64.wrap ((num : Int) - (f : Int)) = (rs.length : Int))
        have HA' := hide ha'
        have hlen : pre.length = rs.length := by rw [hpre]
        clear hrest ha' hpre
        go_upto_region 22 with fail
        clear y7 z7
        obtain ⟨we, hwe⟩ : ∃ we, wb.setCell ⟨w4.heap.size, 7, none⟩ (.int .i64 (pos : Int)) = we := ⟨_, rfl⟩
        rw [hwe] at HSTe ⊢
        clear hwe
        have HSX3 : Hid (∀ x, Below we.heap.size we x → x.cell? ⟨w4.heap.size, 6, none⟩ = some (.int .i64 (num : Int)) ∧ x.cell? ⟨w3.heap.size, 1, none⟩ = some (.int .i64 (f : Int))) := fun x hx => by
          obtain ⟨_, h2, _, _, _, h7, _⟩ := HSTe.out.below hx
          exact ⟨h2.cell 6, h7.cell 1⟩
        refine region_U (fun x => x.cell? ⟨w4.heap.size, 6, none⟩ = some (.int .i64 (num : Int)) ∧ x.cell? ⟨w3.heap.size, 1, none⟩ = some (.int .i64 (f : Int))) 10 (by kernel_rfl) ?_
        intro Y hY
        have HBY : Hid (Below we.heap.size we Y) := by rw [hY]; exact (Below.refl _ _).drew
        have HSY := hide (HSX3.out Y HBY.out)
        clear hY
        refine takeV 11 0 (.pointer (some ⟨w4.heap.size, 0, none⟩)) rfl (by kernel_rfl) (fun _ _ _ h => h) (by rfl) (fun x hS => by
          obtain ⟨s0, s1⟩ := hS
          go_simp) HSY.out ?_
        simp only [Act.put, List.getElem_toArray, List.getElem_cons_succ, List.getElem_cons_zero, List.setIfInBounds_toArray, List.set_cons_zero, List.set_cons_succ]
        refine takeV 11 1 (.pointer (some ⟨w4.heap.size, 0, none⟩)) rfl (by kernel_rfl) (fun _ _ _ h => h) (by rfl) (fun x hS => by
          obtain ⟨s0, s1⟩ := hS
          go_simp) HSY.out ?_
        simp only [Act.put, List.getElem_toArray, List.getElem_cons_succ, List.getElem_cons_zero, List.setIfInBounds_toArray, List.set_cons_zero, List.set_cons_succ]
        refine takeV 11 2 (.pointer (some ⟨w4.heap.size, 0, none⟩)) rfl (by kernel_rfl) (fun _ _ _ h => h) (by rfl) (fun x hS => by
          obtain ⟨s0, s1⟩ := hS
          go_simp) HSY.out ?_
        simp only [Act.put, List.getElem_toArray, List.getElem_cons_succ, List.getElem_cons_zero, List.setIfInBounds_toArray, List.set_cons_zero, List.set_cons_succ]
        refine takeV 11 3 (.pointer (some ⟨w4.heap.size, 6, none⟩)) rfl (by kernel_rfl) (fun _ _ _ h => h) (by rfl) (fun x hS => by
          obtain ⟨s0, s1⟩ := hS
          go_simp) HSY.out ?_
        simp only [Act.put, List.getElem_toArray, List.getElem_cons_succ, List.getElem_cons_zero, List.setIfInBounds_toArray, List.set_cons_zero, List.set_cons_succ]
        refine takeV 11 4 (.int .i64 (num : Int)) rfl (by kernel_rfl) (fun _ _ _ h => h) (by rfl) (fun x hS => by
          obtain ⟨s0, s1⟩ := hS
          go_simp) HSY.out ?_
        simp only [Act.put, List.getElem_toArray, List.getElem_cons_succ, List.getElem_cons_zero, List.setIfInBounds_toArray, List.set_cons_zero, List.set_cons_succ]
        refine takeV 11 5 (.pointer (some ⟨w3.heap.size, 1, none⟩)) rfl (by kernel_rfl) (fun _ _ _ h => h) (by rfl) (fun x hS => by
          obtain ⟨s0, s1⟩ := hS
          go_simp) HSY.out ?_
        simp only [Act.put, List.getElem_toArray, List.getElem_cons_succ, List.getElem_cons_zero, List.setIfInBounds_toArray, List.set_cons_zero, List.set_cons_succ]
        refine takeV 11 6 (.int .i64 (f : Int)) rfl (by kernel_rfl) (fun _ _ _ h => h) (by rfl) (fun x hS => by
          obtain ⟨s0, s1⟩ := hS
          go_simp) HSY.out ?_
        simp only [Act.put, List.getElem_toArray, List.getElem_cons_succ, List.getElem_cons_zero, List.setIfInBounds_toArray, List.set_cons_zero, List.set_cons_succ]
        refine takeV 11 7 (.int .i64 (rs.length : Int)) rfl (by kernel_rfl) (fun _ _ _ h => h) (by rfl) (fun x hS => by
          have hw := HSB.out
          go_simp) HSY.out ?_
        simp only [Act.put, List.getElem_toArray, List.getElem_cons_succ, List.getElem_cons_zero, List.setIfInBounds_toArray, List.set_cons_zero, List.set_cons_succ]
        refine oneU 8 rfl (by kernel_rfl) (by rfl) ?_
        go_wp2_with fail
        refine ⟨(by first | exact fun _ => HSY.out | exact HSY.out), ?_⟩
        try simp only [Act.put, List.getElem_toArray, List.getElem_cons_succ, List.getElem_cons_zero, List.setIfInBounds_toArray, List.set_cons_zero, List.set_cons_succ]
        refine oneU 9 rfl (by kernel_rfl) (by rfl) ?_
        go_wp2_with fail
        refine ⟨(by first | exact fun _ => HSY.out | exact HSY.out), ?_⟩
        try simp only [Act.put, List.getElem_toArray, List.getElem_cons_succ, List.getElem_cons_zero, List.setIfInBounds_toArray, List.set_cons_zero, List.set_cons_succ]
        refine oneU 10 rfl (by kernel_rfl) (by rfl) ?_
        have HSTY := hide (HSTe.out.below HBY.out)
        have y11 : Y.cell? ⟨w4.heap.size, 11, none⟩ = some (.int .i64 0) := HSTY.out.2.1.cell 11
        have z11 := HSTY.out.2.1.frozen 11
        go_wp2_with fail
        refine doneU (by kernel_rfl) ?_ _
        clear y11 z11 HSY HBY HSX3
        have hne : num = f + rs.length := by rw [HNUM.out, HPRE.out]
        obtain ⟨⟨hBj, hdY⟩, hjY, ⟨hoY, hsY⟩, _, _, _, hkY, hBY⟩ := HSTY.out
        have HJS : Hid (JAt (Y.setCell ⟨w4.heap.size, 11, none⟩ (.int .i64 (rs.length : Int))) B (Y.setCell ⟨w4.heap.size, 11, none⟩ (.int .i64 (rs.length : Int))).heap.size w4.heap.size g (foundJ z m f a a' rs)) := by
          refine ⟨hBj, v, ?_, us, ?_, ?_, ?_⟩
          · have hb := hjY.set_ 11 (.int .i64 (rs.length : Int))
            rw [hne, ← HA'.out] at hb
            exact hb
          · have ho := own_far hoY hjY (by decide) (.int .i64 (rs.length : Int)) (i := 11)
            rw [← HPRE.out] at ho
            exact ho
          · have hs := hsY.far hjY (by decide) (.int .i64 (rs.length : Int)) (i := 11)
            rw [← HPRE.out] at hs
            exact hs
          · intro q e
            exact (own_far hoY hjY (by decide) (.int .i64 (rs.length : Int)) (i := 11)).lt q e |>.2
        have HDS := hide (hdY.far hjY (by decide) (by decide) (by decide) (by decide) (.int .i64 (rs.length : Int)) (i := 11))
        have HKS : Hid (JKeep B W (Y.setCell ⟨w4.heap.size, 11, none⟩ (.int .i64 (rs.length : Int)))) := hkY.trans (JKeep.set hBj hjY 11 _)
        have hBS : B ≤ (Y.setCell ⟨w4.heap.size, 11, none⟩ (.int .i64 (rs.length : Int))).heap.size := Nat.le_trans hBY (JKeep.set hBj hjY 11 (.int .i64 (rs.length : Int))).1.size
        have hgd := chain_good HOK.out.chain
        have hpos := HW7.out.2
        have HFIT : Hid (Fit (foundJ z m f a a' rs) N) := by
          have h1 := HOK.out.mb
          have h2 := HOK.out.fb
          have h3 := HOK.out.zN
          refine ⟨fun p hp => ?_, ?_, ?_, ?_, by omega, HOK.out.owed⟩
          · obtain ⟨ps, hps, hpp⟩ := List.mem_flatten.1 hp
            have := (hgd ps hps).2.2 p hpp
            exact ⟨this.1, this.2.2⟩
          · show m + 1 < 65536
            omega
          · show f + rs.length < 65536
            omega
          · show a' < 65536
            rw [HA'.out]
            exact hpos
        have hol : (foundJ z m f a a' rs).owed.length ≤ 1000 := HOK.out.owed
        clear hdY hjY hoY hsY hkY hBY HSTY HSTe HSTwb HSTt HSTwa HST hgd hpos
        obtain ⟨wS, hwS⟩ : ∃ wS, Y.setCell ⟨w4.heap.size, 11, none⟩ (.int .i64 (rs.length : Int)) = wS := ⟨_, rfl⟩
        rw [hwS] at HJS HDS HKS hBS ⊢
        clear hwS
        obtain ⟨_, _, _, hbS⟩ := HJS.out.cells
        have q11 : wS.cell? ⟨w4.heap.size, 11, none⟩ = some (.int .i64 (rs.length : Int)) := hbS.cell 11
        clear hbS
        by_cases h0 : 0 < rs.length
        · have t1 : decide ((rs.length : Int) > 0) = true := decide_eq_true (by omega)
          have t2 : decide (rs.length > 0) = true := decide_eq_true h0
          have HB5 : Hid (Below wS.heap.size wS (wS.alloc (.cells #[homeV w4.heap.size, flushV g, tellV w4.heap.size, flushV g] 59))) := (Below.refl _ _).alloc (Nat.le_refl _) _
          have HBF : Hid (Blk (wS.alloc (.cells #[homeV w4.heap.size, flushV g, tellV w4.heap.size, flushV g] 59)) wS.heap.size 59 [homeV w4.heap.size, flushV g, tellV w4.heap.size, flushV g].toArray) := Blk.new _ _ _
          go_wp2_with fail
          clear q11 t1 t2
          obtain ⟨wF, hwF⟩ : ∃ wF, wS.alloc (.cells #[homeV w4.heap.size, flushV g, tellV w4.heap.size, flushV g] 59) = wF := ⟨_, rfl⟩
          rw [hwF] at HBF HB5 ⊢
          clear hwF
          have hBF : B ≤ wF.heap.size := Nat.le_trans hBS HB5.out.size
          have HJ5 := hide (HJS.out.lift HB5.out)
          refine (first_any _ _ 4 4 rfl (by simp) (OpI wF B g (c + 1) (foundJ z m f a a' rs) N) wF ⟨DKeep.refl _ _, HDS.out.lift HB5.out⟩ (fun k w hi => reads_keep HBF.out hi.keep (by decide) (by decide) (by decide) rfl) (fun k hk w hi => by
            have hkw := hi.keep
            have hszw : B ≤ w.heap.size := Nat.le_trans hBF hkw.1.size
            have hjw := HJ5.out.dkeep hkw
            match k, hk, hi with
            | 0, _, hi =>
              refine (fn_home hjw hi.2 hszw (by omega) HFIT.out).weak ?_
              rintro e w' ⟨rfl, hd, hk'⟩
              exact ⟨rfl, hkw.trans hk', hd⟩
            | 1, _, hi =>
              refine (hi.2.fn_flush (by omega)).weak ?_
              rintro e w' ⟨rfl, hd, hk'⟩
              exact ⟨rfl, hkw.trans hk', hd⟩
            | 2, _, hi =>
              refine (fn_tell hjw hi.2 hszw (by omega) HFIT.out).weak ?_
              rintro e w' ⟨rfl, hd, hk'⟩
              exact ⟨rfl, hkw.trans hk', hd⟩
            | 3, _, hi =>
              refine (hi.2.fn_flush (by omega)).weak ?_
              rintro e w' ⟨rfl, hd, hk'⟩
              exact ⟨rfl, hkw.trans hk', hd⟩)).mono ?_
          rintro e w6 ⟨rfl, hi⟩
          have HI : Hid (OpI wF B g (c + 1) (foundJ z m f a a' rs) N 4 w6) := hi
          have hJ6 := HJ5.out.dkeep hi.1
          have hk6 : JKeep B W w6 := (HKS.out.trans (JKeep.of_below HB5.out hBS)).trans (JKeep.of_dkeep hi.1)
          have HSD := hide (settled_any hJ6 hi.2 (Nat.le_trans hBF hi.1.1.size) HFIT.out.2.1)
          obtain ⟨_, _, _, hb6⟩ := hJ6.cells
          have q11 : w6.cell? ⟨w4.heap.size, 11, none⟩ = some (.int .i64 (rs.length : Int)) := hb6.cell 11
          clear hi hJ6 hb6
          have HKs : Hid (JKeep B W w6) := hk6
          clear hk6
          go_wp2_with fail
          refine (unhide HSD).mono ?_
          rintro e w7 ⟨rfl, hj7, hd7, hk7, _⟩
          have HJ7 := hide hj7
          have HD7 := hide hd7
          have HK7 := hide (HKs.out.trans hk7)
          clear hj7 hd7 hk7 HSD
          go_wp2
          go_ret3
          refine ⟨_, rfl, HJ7.out.top (Nat.zero_le _), ?_, HK7.out⟩
          unfold openN
          rw [decide_eq_true h0]
          exact HD7.out.more (by show c + 1 + rs.flatten.length + 3 ≤ _; omega)
        · have t1 : decide ((rs.length : Int) > 0) = false := decide_eq_false (by omega)
          have t2 : decide (rs.length > 0) = false := decide_eq_false h0
          have HSD := hide (settled_any HJS.out HDS.out hBS HFIT.out.2.1)
          have hk6 := HKS.out
          have HKs : Hid (JKeep B W wS) := hk6
          clear hk6
          go_wp2_with fail
          refine (unhide HSD).mono ?_
          rintro e w7 ⟨rfl, hj7, hd7, hk7, _⟩
          have HJ7 := hide hj7
          have HD7 := hide hd7
          have HK7 := hide (HKs.out.trans hk7)
          clear hj7 hd7 hk7 HSD
          go_wp2
          go_ret3
          refine ⟨_, rfl, HJ7.out.top (Nat.zero_le _), ?_, HK7.out⟩
          unfold openN
          rw [decide_eq_false h0]
          exact HD7.out.more (by omega)
end
end Go.Proofs.Ytogjdfiimflbaaa
