/-
  The walks of page.Join, page.Pack and icehouselaw14's awake. Conditions: the slices read as lists of bytes; the table half reads as the text lays it.
-/
import Derived.Test.YtenhjnicadjbaaaDoorFrames
import Derived.Test.YtenhjnicadjbaaaDoorStrings
import Derived.Test.YtenhjnicadjbaaaDoorCrcSums
import Derived.Laws.OwnMore
namespace Go.Proofs.YtenhjnicadjbaaaDoor
open Go Go.RowKit

def pageB (k : Nat) (l : List UInt8) : List UInt8 := [UInt8.ofNat k, UInt8.ofNat (l.length / 256), UInt8.ofNat l.length] ++ (l ++ List.replicate (505 - l.length) 0)
def pageL (k : Nat) (l : List UInt8) : List UInt8 := frameL (pageB k l)
theorem pageB_len (k : Nat) {l : List UInt8} (h : l.length ≤ 505) : (pageB k l).length = 508 := by
  simp [pageB]
  omega
theorem pageL_len (k : Nat) {l : List UInt8} (h : l.length ≤ 505) : (pageL k l).length = 512 := by
  unfold pageL
  rw [frameL_len, pageB_len k h]
theorem pageB_flat (k : Nat) (l : List UInt8) : [[UInt8.ofNat k, UInt8.ofNat (l.length / 256), UInt8.ofNat l.length], l, List.replicate (505 - l.length) 0].flatten = pageB k l := by
  simp [pageB]
theorem pageB_cells (k n : Nat) (hn : n ≤ 505) : (byts [UInt8.ofNat k, UInt8.ofNat (n / 256), UInt8.ofNat n]).toArray = #[.int .u8 ((k : Int) % 256), .int .u8 ((n : Int) / 256), .int .u8 ((n : Int) % 256)] := by
  have h2 : ((n / 256 : Nat) : Int) % 256 = (n : Int) / 256 := by omega
  simp only [byts, List.map_cons, List.map_nil, u8_ofNat, h2]
theorem zeros_cells (m : Nat) : madeCells #[.int .u8 0] m = (byts (List.replicate m 0)).toArray := by
  rw [← Array.toList_inj, toList_madeCells_one]
  simp [byts]
theorem make8 (m : Nat) (h : m ≤ 1099511627776) (W : World) : (Instr.makeSlice 23 (.int .i64 (m : Int)) (.int .i64 (m : Int))).run Tryd.prog W = .ok (.slice (some ⟨W.heap.size, 0, none⟩) m m) (W.alloc (.cells (madeCells #[.int .u8 0] m) 5)) := by
  obtain ⟨i0, hi0, hz0, hz1, hz2⟩ := info_parts info_u8
  have := run_make_rowN (P := Tryd.prog) 23 5 i0 _ Tryd.underlying23 hi0 hz0 .i64 .i64 m m (Nat.le_refl _) (by rw [hz2]; omega) (by omega) W
  rw [this, hz1, Nat.mul_one]
  rfl

set_option maxRecDepth 100000 in
set_option maxHeartbeats 400000 in
theorem join_any (ls : List (List UInt8)) (A : Option Addr) (n c B : Nat) (w : World) (hn : n = ls.length) (hl : ls.length ≤ 1099511627776) (hf : ls.flatten.length ≤ 1099511627776) (hB : B ≤ w.heap.size) (hA : RowsAt w B A ls) :
    Calls Tryd.prog 23 #[.slice A n c] w fun e w' => ∃ v, e = .returned v ∧ w'.ownsRow w.heap.size 5 1 v ls.flatten.length (byts ls.flatten) ∧ Below w.heap.size w w' := by
  subst hn
  have HC := hide (concat_any ls A ls.length c B w rfl hl hf hB hA)
  clear hA hf hl hB
  generalize ls.flatten = all at *
  go_enter Tryd.func23, Tryd.ntmps23
  go_wp2_with fail
  refine (unhide HC).mono ?_
  rintro e w1 ⟨v1, rfl, hown1, hbe1⟩
  have HO1 := hide hown1
  have HE1 := hide hbe1
  clear hown1 hbe1
  go_wp2
  go_ret
  exact ⟨v1, rfl, HO1.out, HE1.out⟩

/-- what Pack answers: the page's octets, or an error -/
def packs (t : Int) (n : Nat) : Bool := decide (1 ≤ t) && (decide (t ≤ 255) && decide (n ≤ 505))
def PackOk (k : Nat) (l : List UInt8) (w : World) (e : Ending) (w' : World) : Prop :=
  ∃ v, e = .returned (.tuple #[v, .int .i64 0]) ∧ w'.ownsRow w.heap.size 5 1 v (pageL k l).length (byts (pageL k l)) ∧ Below w.heap.size w w'
def PackBad (t : Int) (w : World) (e : Ending) (w' : World) : Prop :=
  ((e = .returned (.tuple #[.slice none 0 0, .int .i64 2]) ∧ (t < 1 ∨ 255 < t)) ∨ (e = .returned (.tuple #[.slice none 0 0, .int .i64 12]) ∧ 1 ≤ t ∧ t ≤ 255)) ∧ Below w.heap.size w w'

set_option maxRecDepth 100000 in
set_option maxHeartbeats 1000000 in
theorem pack_ok (k : Nat) (ls : List (List UInt8)) (A : Option Addr) (n c B : Nat) (w : World) (hk1 : 1 ≤ k) (hk2 : k ≤ 255) (hn : n = ls.length) (hl : ls.length ≤ 1099511627776) (hf : ls.flatten.length ≤ 505) (hB : B ≤ w.heap.size) (hA : RowsAt w B A ls) (hh : HalfAt w) :
    Calls Tryd.prog 20 #[.int .i64 (k : Int), .slice A n c] w (PackOk k ls.flatten w) := by
  subst hn
  have HC := hide (join_any ls A ls.length c B w rfl hl (by omega) hB hA)
  have HH := hide hh
  have k1 : decide ((k : Int) < 1) = false := by simp; omega
  have k2 : decide ((255 : Int) < (k : Int)) = false := by simp; omega
  have f1 : decide ((505 : Int) < (ls.flatten.length : Int)) = false := decide_eq_false (by omega)
  have HK := hide hk2
  have hcel := hide (pageB_cells k ls.flatten.length hf)
  have hfl := hide (pageB_flat k ls.flatten)
  have hlen := hide (pageB_len k hf)
  have hmk := make8 (505 - ls.flatten.length) (by omega)
  rw [show ((505 - ls.flatten.length : Nat) : Int) = 505 - (ls.flatten.length : Int) by omega] at hmk
  have hzl := hide (show (List.replicate (505 - ls.flatten.length) (0 : UInt8)).length = 505 - ls.flatten.length by simp)
  have hzc := hide (zeros_cells (505 - ls.flatten.length))
  have hz5 : 505 - ls.flatten.length ≤ 505 := by omega
  clear hA hh hl hk1 hk2 hB
  unfold PackOk pageL
  generalize pageB k ls.flatten = pb at *
  generalize ls.flatten = all at *
  generalize List.replicate (505 - all.length) (0 : UInt8) = zs at *
  generalize madeCells #[.int .u8 0] (505 - all.length) = zc at *
  generalize 505 - all.length = zn at *
  go_enter Tryd.func20, Tryd.ntmps20
  go_wp2_with fail
  refine (unhide HC).mono ?_
  rintro e w1 ⟨v1, rfl, hown1, hbe1⟩
  obtain ⟨A1, c1, rfl, hc1, hb1⟩ := own_slice hown1
  have HB1 := hide hb1
  have HE1 := hide hbe1
  clear hown1 hbe1 hb1
  go_wp2_with fail
  have hF : BytesAt (w1.alloc (.cells #[.int .u8 ((k : Int) % 256), .int .u8 ((all.length : Int) / 256), .int .u8 ((all.length : Int) % 256)] 5)) (w1.heap.size + 1) (some ⟨w1.heap.size, 0, none⟩) [UInt8.ofNat k, UInt8.ofNat (all.length / 256), UInt8.ofNat all.length] := BytesAt.new w1 _ _ _ _ hcel.out.symm
  have hA2 : BytesAt (w1.alloc (.cells #[.int .u8 ((k : Int) % 256), .int .u8 ((all.length : Int) / 256), .int .u8 ((all.length : Int) % 256)] 5)) (w1.heap.size + 1) A1 all := (Reads.alloc (unhide HB1) (Nat.le_refl _) _).more (by omega)
  have hE2 : Below w.heap.size w (w1.alloc (.cells #[.int .u8 ((k : Int) % 256), .int .u8 ((all.length : Int) / 256), .int .u8 ((all.length : Int) % 256)] 5)) := HE1.out.alloc HE1.out.size _
  have hsz2 : (w1.alloc (.cells #[.int .u8 ((k : Int) % 256), .int .u8 ((all.length : Int) / 256), .int .u8 ((all.length : Int) % 256)] 5)).heap.size = w1.heap.size + 1 := by simp
  generalize w1.alloc (.cells #[.int .u8 ((k : Int) % 256), .int .u8 ((all.length : Int) / 256), .int .u8 ((all.length : Int) % 256)] 5) = w2 at *
  have hZ : BytesAt (w2.alloc (.cells zc 5)) (w2.heap.size + 1) (some ⟨w2.heap.size, 0, none⟩) zs := BytesAt.new w2 _ _ _ _ hzc.out
  have hF3 : BytesAt (w2.alloc (.cells zc 5)) (w2.heap.size + 1) _ _ := (Reads.alloc hF (by omega) _).more (by omega)
  have hA3 : BytesAt (w2.alloc (.cells zc 5)) (w2.heap.size + 1) _ _ := (Reads.alloc hA2 (by omega) _).more (by omega)
  have hE3 : Below w.heap.size w (w2.alloc (.cells zc 5)) := hE2.alloc hE2.size _
  have hsz3 : (w2.alloc (.cells zc 5)).heap.size = w2.heap.size + 1 := by simp
  rw [hsz2] at hZ
  generalize w2.alloc (.cells zc 5) = w3 at *
  have hR := RowsAt.three (w := w3) (g := w1.heap.size + 1 + 1) (t := 23) (f := (0, 0)) (n1 := 3) (c1 := 3) (n2 := all.length) (c2 := c1) (n3 := zn) (c3 := zn) (by omega) rfl rfl hzl.out.symm (by rw [hsz2] at hF3; exact hF3) (by rw [hsz2] at hA3; exact hA3) hZ (by simp) hc1 (by rw [hzl.out]; omega)
  have hE4 := hE3.alloc hE3.size (.cells #[.slice (some ⟨w1.heap.size, 0, none⟩) 3 3, .slice A1 all.length c1, .slice (some ⟨w1.heap.size + 1, 0, none⟩) zn zn] 23)
  have hsz4 : (w3.alloc (.cells #[.slice (some ⟨w1.heap.size, 0, none⟩) 3 3, .slice A1 all.length c1, .slice (some ⟨w1.heap.size + 1, 0, none⟩) zn zn] 23)).heap.size = w3.heap.size + 1 := by simp
  have hFR := frame_any _ _ 3 3 _ _ rfl (by simp) (by rw [hfl.out, hlen.out]; omega) (by
    intro l hl
    simp only [List.mem_cons, List.not_mem_nil, or_false] at hl
    rcases hl with rfl | rfl | rfl
    · simp
    · omega
    · rw [hzl.out]
      omega) (by omega) hR ((unhide HH).below hE4)
  rw [hfl.out] at hFR
  have HE4 := hide hE4
  refine hFR.mono ?_
  rintro e w5 ⟨v5, rfl, hown5, hbe5⟩
  have HO5 := hide hown5
  have HE5 := hide (HE4.out.trans (hbe5.mono HE4.out.size))
  have HSZ := hide HE4.out.size
  clear hown5 hbe5 hE4 hE3 hE2 hR hFR hF hA2 hZ hF3 hA3
  go_wp2
  go_ret2
  exact ⟨v5, rfl, own_base HO5.out HSZ.out, HE5.out⟩

set_option maxRecDepth 100000 in
set_option maxHeartbeats 1000000 in
theorem pack_bad (t : Int) (ls : List (List UInt8)) (A : Option Addr) (n c B : Nat) (w : World) (hn : n = ls.length) (hl : ls.length ≤ 1099511627776) (hf : ls.flatten.length ≤ 1099511627776) (hp : packs t ls.flatten.length = false) (hB : B ≤ w.heap.size) (hA : RowsAt w B A ls) :
    Calls Tryd.prog 20 #[.int .i64 t, .slice A n c] w (PackBad t w) := by
  subst hn
  have HC := hide (join_any ls A ls.length c B w rfl hl (by omega) hB hA)
  have HP := hide hp
  clear hA hl hB hp
  unfold PackBad
  generalize ls.flatten = all at *
  by_cases h1 : t < 1
  · have k1 : decide (t < 1) = true := decide_eq_true h1
    go_enter Tryd.func20, Tryd.ntmps20
    go_wp2_with fail
    refine (unhide HC).mono ?_
    rintro e w1 ⟨v1, rfl, hown1, hbe1⟩
    have HE1 := hide hbe1
    clear hown1 hbe1
    go_wp2_with fail
    go_ret2
    exact ⟨.inl ⟨rfl, .inl h1⟩, HE1.out⟩
  · have k1 : decide (t < 1) = false := decide_eq_false h1
    by_cases h2 : 255 < t
    · have k2 : decide (255 < t) = true := decide_eq_true h2
      go_enter Tryd.func20, Tryd.ntmps20
      go_wp2_with fail
      refine (unhide HC).mono ?_
      rintro e w1 ⟨v1, rfl, hown1, hbe1⟩
      have HE1 := hide hbe1
      clear hown1 hbe1
      go_wp2_with fail
      go_ret2
      exact ⟨.inl ⟨rfl, .inr h2⟩, HE1.out⟩
    · have k2 : decide (255 < t) = false := decide_eq_false h2
      have f1 : decide ((505 : Int) < (all.length : Int)) = true := by
        refine decide_eq_true ?_
        have := HP.out
        unfold packs at this
        simp only [Bool.and_eq_false_iff, decide_eq_false_iff_not] at this
        omega
      have HT := hide (show 1 ≤ t ∧ t ≤ 255 by omega)
      clear h1 h2
      go_enter Tryd.func20, Tryd.ntmps20
      go_wp2_with fail
      refine (unhide HC).mono ?_
      rintro e w1 ⟨v1, rfl, hown1, hbe1⟩
      obtain ⟨A1, c1, rfl, hc1, hb1⟩ := own_slice hown1
      have HE1 := hide hbe1
      clear hown1 hbe1 hb1
      go_wp2_with fail
      go_ret2
      exact ⟨.inr ⟨rfl, HT.out⟩, HE1.out⟩

theorem page_ab : (pageL 1 [97, 98]).take 6 = [1, 0, 2, 97, 98, 0] := by
  unfold pageL frameL
  rw [List.take_append_of_le_length (by rw [pageB_len 1 (by decide)]; omega)]
  decide

set_option maxRecDepth 100000 in
set_option maxHeartbeats 400000 in
theorem awake14 (w : World) (hh : HalfAt w) :
    Calls Tryd.prog 19 #[] w fun e w' => e = .returned (.bool true) ∧ Below w.heap.size w w' := by
  have hcv := fun (w : World) (C : Array Value) (n c : Nat) => Lib.run_convert_bytes_const (P := Tryd.prog) w 23 5 C n c Tryd.underlying23 Tryd.underlying5
  have HH := hide hh
  clear hh
  go_enter Tryd.func19, Tryd.ntmps19
  go_wp2_with fail
  clear hcv
  have HB : Hid (BytesAt (w.alloc (.cells #[.int .u8 97, .int .u8 98] 5 (2, 3))) (w.heap.size + 1) (some ⟨w.heap.size, 0, none⟩) [97, 98]) := BytesAt.new _ _ _ _ _ rfl
  have hbe1 : Below w.heap.size w (w.alloc (.cells #[.int .u8 97, .int .u8 98] 5 (2, 3))) := (Below.refl _ _).alloc (Nat.le_refl _) _
  have hbe := hbe1.alloc (by simp) (.cells #[.slice (some ⟨w.heap.size, 0, none⟩) 2 2] 23)
  have HE := hide hbe
  clear hbe hbe1
  refine (pack_ok 1 [[97, 98]] (some ⟨w.heap.size + 1, 0, none⟩) 1 1 (w.heap.size + 2) _ (by decide) (by decide) rfl (by decide) (by decide) (by simp) ?_ ((unhide HH).below (unhide HE))).mono ?_
  · exact RowsAt.one (w := w.alloc (.cells #[.int .u8 97, .int .u8 98] 5 (2, 3))) (n := 2) (c := 2) (g := w.heap.size + 1) (by simp) rfl (unhide HB) (by decide)
  rintro e w2 ⟨v2, rfl, hown2, hbe2⟩
  have hfl : [([97, 98] : List UInt8)].flatten = [97, 98] := rfl
  rw [hfl] at hown2
  have HE2 := hide (HE.out.trans (hbe2.mono HE.out.size))
  obtain ⟨A2, c2, rfl, hc2, hb2⟩ := own_slice hown2
  rw [pageL_len 1 (by decide)] at hc2 ⊢
  have HB6 := hide (BytesAt.take hb2 6)
  rw [page_ab] at HB6
  have hs1 : ∀ W, (Instr.slice 23 (.slice A2 512 c2) none (some (.int .i64 (6 : Int))) none).run Tryd.prog W = .ok (.slice A2 6 c2) W := fun W => cut_front8 A2 512 c2 6 (by omega) W
  have hcv := conv_str 6 c2 rfl HB6.out
  have hq : ((strOf [1, 0, 2, 97, 98, 0]).toList == ([1, 0, 2, 97, 98, 0] : List UInt8)) = true := by decide +kernel
  clear hown2 hbe2 hb2 hfl
  go_wp2
  go_ret
  exact ⟨rfl, HE2.out⟩

def PackPost (t : Int) (l : List UInt8) (w : World) (e : Ending) (w' : World) : Prop :=
  ∃ A n c code, e = .returned (.tuple #[.slice A n c, .int .i64 code]) ∧ Below w.heap.size w w' ∧
    ((packs t l.length = true ∧ code = 0 ∧ n = (pageL t.toNat l).length ∧ n ≤ c ∧ BytesAt w' w'.heap.size A (pageL t.toNat l)) ∨
     (packs t l.length = false ∧ n = 0 ∧ c = 0 ∧ A = none ∧ (code = 2 ∧ (t < 1 ∨ 255 < t) ∨ code = 12 ∧ 1 ≤ t ∧ t ≤ 255)))
theorem pack_post (t : Int) (ls : List (List UInt8)) (A : Option Addr) (n c B : Nat) (w : World) (hn : n = ls.length) (hl : ls.length ≤ 1099511627776) (hf : ls.flatten.length ≤ 1099511627776) (hB : B ≤ w.heap.size) (hA : RowsAt w B A ls) (hh : HalfAt w) :
    Calls Tryd.prog 20 #[.int .i64 t, .slice A n c] w (PackPost t ls.flatten w) := by
  cases hp : packs t ls.flatten.length with
  | false =>
    refine (pack_bad t ls A n c B w hn hl hf hp hB hA).mono fun e w' h => ?_
    obtain ⟨⟨rfl, h⟩ | ⟨rfl, h⟩, hb⟩ := h
    · exact ⟨_, _, _, _, rfl, hb, .inr ⟨hp, rfl, rfl, rfl, .inl ⟨rfl, h⟩⟩⟩
    · exact ⟨_, _, _, _, rfl, hb, .inr ⟨hp, rfl, rfl, rfl, .inr ⟨rfl, h⟩⟩⟩
  | true =>
    have h := hp
    unfold packs at h
    simp only [Bool.and_eq_true, decide_eq_true_eq] at h
    obtain ⟨k, rfl⟩ : ∃ k : Nat, t = k := ⟨t.toNat, by omega⟩
    refine (pack_ok k ls A n c B w (by omega) (by omega) hn hl h.2.2 hB hA hh).mono fun e w' h => ?_
    obtain ⟨v, rfl, ho, hb⟩ := h
    obtain ⟨A', c', rfl, hc, hr⟩ := own_slice ho
    exact ⟨_, _, _, _, rfl, hb, .inl ⟨hp, rfl, rfl, hc, hr⟩⟩

theorem frameL_inj {a b : List UInt8} (hl : a.length = b.length) (h : frameL a = frameL b) : a = b := (List.append_inj h hl).1
theorem u8_inj {a b : Nat} (ha : a < 256) (hb : b < 256) (h : UInt8.ofNat a = UInt8.ofNat b) : a = b := by
  have := congrArg UInt8.toNat h
  rw [UInt8.toNat_ofNat', UInt8.toNat_ofNat'] at this
  omega
theorem u8_mod {a b : Nat} (h : UInt8.ofNat a = UInt8.ofNat b) : a % 256 = b % 256 := by
  have := congrArg UInt8.toNat h
  rw [UInt8.toNat_ofNat', UInt8.toNat_ofNat'] at this
  omega
theorem pageL_inj {k k' : Nat} {a b : List UInt8} (hk : k ≤ 255) (hk' : k' ≤ 255) (ha : a.length ≤ 505) (hb : b.length ≤ 505) (h : pageL k a = pageL k' b) : k = k' ∧ a = b := by
  have h1 := frameL_inj (by rw [pageB_len k ha, pageB_len k' hb]) h
  unfold pageB at h1
  simp only [List.cons_append, List.nil_append, List.cons.injEq] at h1
  obtain ⟨e1, e2, e3, e4⟩ := h1
  have i2 := u8_mod e2
  have i3 := u8_mod e3
  exact ⟨u8_inj (by omega) (by omega) e1, (List.append_inj e4 (by omega)).1⟩
end Go.Proofs.YtenhjnicadjbaaaDoor
