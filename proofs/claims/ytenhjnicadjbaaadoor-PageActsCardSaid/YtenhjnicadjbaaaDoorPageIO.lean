/-
  The walks of page.Write and page.Read. Conditions: the pointer is none, or a device's that lies as its state says; the table half reads as the text lays it.
-/
import Derived.Test.YtenhjnicadjbaaaDoorDevWrite
import Derived.Test.YtenhjnicadjbaaaDoorDevRead
import Derived.Test.YtenhjnicadjbaaaDoorUnpackW
namespace Go.Proofs.YtenhjnicadjbaaaDoor
open Go Go.RowKit

theorem HalfAt.low {B : Nat} {w w' : World} (h : HalfAt w) (hB : 0 < B) (hb : Below B w w') : HalfAt w' :=
  ⟨Nat.lt_of_lt_of_le h.1 hb.size, fun i hi => (hb.cell (p := ⟨0, i, none⟩) hB).trans (h.2 i hi)⟩
def packCode (t : Int) (n : Nat) : Int := if packs t n = true then 0 else if t < 1 ∨ 255 < t then 2 else 12
theorem packCode_bad {t : Int} {n : Nat} {code : Int} (h : packs t n = false) (hc : code = 2 ∧ (t < 1 ∨ 255 < t) ∨ code = 12 ∧ 1 ≤ t ∧ t ≤ 255) : packCode t n = code ∧ code ≠ 0 := by
  unfold packCode
  rw [if_neg (by rw [h]; decide)]
  rcases hc with ⟨rfl, h1⟩ | ⟨rfl, h1⟩
  · rw [if_pos h1]; exact ⟨rfl, by decide⟩
  · rw [if_neg (by omega)]; exact ⟨rfl, by decide⟩
theorem secs_all64 (l : List UInt8) : All64 (secs l) := fun s hs => by
  unfold secs at hs
  obtain ⟨k, _, rfl⟩ := List.mem_map.1 hs
  exact secL_len l k
def pwCode (S : DS) (at_ t : Int) (L : List UInt8) : Int := if packs t L.length = true then writeCode S at_ (secs (pageL t.toNat L)) else packCode t L.length
def pwTo (S : DS) (at_ t : Int) (L : List UInt8) : DS := if packs t L.length = true then writeTo S at_ (secs (pageL t.toNat L)) else S

set_option maxRecDepth 100000 in
set_option maxHeartbeats 1000000 in
theorem pwrite_any (W : World) (B g : Nat) (S : DS) (h : DevAt W B g S) (hh : HalfAt W) (hn : S.n < 1048576) (hl : -1 ≤ S.left) (at_ t : Int) (ls : List (List UInt8)) (A : Option Addr) (n c : Nat) (hn2 : n = ls.length) (hll : ls.length ≤ 1099511627776) (hf : ls.flatten.length ≤ 1099511627776) (hq : S.q.length + 8 ≤ 1048576) (hB : B ≤ W.heap.size) (hA : RowsAt W W.heap.size A ls) :
    Calls Tryd.prog 33 #[.pointer (some ⟨g, 0, none⟩), .int .i64 at_, .int .i64 t, .slice A n c] W fun e W' => e = .returned (.int .i64 (pwCode S at_ t ls.flatten)) ∧ DevAt W' B g (pwTo S at_ t ls.flatten) ∧ DKeep B W W' := by
  subst hn2
  have HP := hide (pack_post t ls A ls.length c W.heap.size W rfl hll hf (Nat.le_refl _) hA hh)
  have HD := hide h
  have HBW := hide hB
  generalize ls.flatten = L at *
  clear hA hh h hll hf
  cases hp : packs t L.length with
  | false =>
    have e1 : pwTo S at_ t L = S := by unfold pwTo; rw [hp]; rfl
    have e2 : pwCode S at_ t L = packCode t L.length := by unfold pwCode; rw [hp]; rfl
    rw [e1, e2]
    have HPF := hide hp
    clear e1 e2 hp
    go_enter Tryd.func33, Tryd.ntmps33
    go_wp2_with fail
    refine (unhide HP).mono ?_
    rintro e w1 ⟨A1, n1, c1, code, rfl, hbe, ⟨hq1, _⟩ | ⟨_, rfl, rfl, rfl, hcode⟩⟩
    · rw [HPF.out] at hq1
      cases hq1
    · obtain ⟨ec, hc0⟩ := packCode_bad HPF.out hcode
      have hne : (code != 0) = true := by simpa using hc0
      have HBE := hide hbe
      have HEC := hide ec
      clear hcode ec hc0 hbe
      go_wp2
      go_ret
      exact ⟨by rw [HEC.out]; rfl, HD.out.lift HBE.out, DKeep.of_below HBE.out HBW.out⟩
  | true =>
    have e1 : pwTo S at_ t L = writeTo S at_ (secs (pageL t.toNat L)) := by unfold pwTo; rw [hp]; rfl
    have e2 : pwCode S at_ t L = writeCode S at_ (secs (pageL t.toNat L)) := by unfold pwCode; rw [hp]; rfl
    rw [e1, e2]
    have hpp := hp
    unfold packs at hpp
    simp only [Bool.and_eq_true, decide_eq_true_eq] at hpp
    have hpl := pageL_len t.toNat hpp.2.2
    have HPF := hide hp
    have HSL := hide (show (secs (pageL t.toNat L)).length = 8 by rw [secs_len, hpl])
    clear e1 e2 hp hpp
    unfold PackPost at HP
    generalize pageL t.toNat L = pg at *
    have HPL := hide hpl
    clear hpl
    go_enter Tryd.func33, Tryd.ntmps33
    go_wp2_with fail
    refine (unhide HP).mono ?_
    rintro e w1 ⟨A1, n1, c1, code, rfl, hbe, ⟨_, rfl, rfl, hc1, hb1⟩ | ⟨hq1, _⟩⟩
    · have HS := hide (sectors_blk pg A1 pg.length c1 w1 rfl (by have := HPL.out; omega) hc1 hb1)
      have HD1 := hide (HD.out.lift hbe)
      have HBE := hide hbe
      clear hb1 hbe HP HD
      go_wp2_with fail
      refine (unhide HS).mono ?_
      rintro e w2 ⟨A2, c2, rfl, hr, hbe2⟩
      have HD2 := hide (HD1.out.lift hbe2)
      have HR2 := hide hr
      have HBE2 := hide (HBE.out.trans (hbe2.mono HBE.out.size))
      clear hr hbe2 HD1 HS
      go_wp2_with fail
      refine (write_any w2 B g S HD2.out hn hl at_ (secs pg) A2 (secs pg).length c2 rfl (by have := HSL.out; omega) (secs_all64 pg) HR2.out).mono ?_
      rintro e w3 ⟨rfl, hd, hk⟩
      have HD3 := hide hd
      have HK3 := hide hk
      clear hd hk HD2 HR2
      go_wp2
      go_ret
      exact ⟨rfl, HD3.out, (DKeep.of_below HBE2.out HBW.out).trans HK3.out⟩
    · rw [HPF.out] at hq1
      cases hq1

set_option maxRecDepth 100000 in
set_option maxHeartbeats 400000 in
theorem pwrite_none (W : World) (at_ t : Int) (A : Option Addr) (n c : Nat) :
    Calls Tryd.prog 33 #[.pointer none, .int .i64 at_, .int .i64 t, .slice A n c] W fun e W' => e = .returned (.int .i64 1) ∧ W' = W := by
  go_enter Tryd.func33, Tryd.ntmps33
  go_wp2
  go_ret
  exact ⟨rfl, rfl⟩

set_option maxRecDepth 100000 in
set_option maxHeartbeats 400000 in
theorem pread_none (W : World) (at_ : Int) :
    Calls Tryd.prog 34 #[.pointer none, .int .i64 at_] W fun e W' => e = .returned (.tuple #[.int .i64 0, .slice none 0 0, .int .i64 1]) ∧ W' = W := by
  go_enter Tryd.func34, Tryd.ntmps34
  go_wp2
  refine bodyPost_ret (results_tmp3 rfl _ _ _) rfl ?_
  exact ⟨rfl, rfl⟩

/-- what page.Read answers: kind, body, code -/
def prCode (S : DS) (at_ : Int) : Int := if readCode S at_ 8 = 0 then (if isPage (readL S at_ 8).flatten = true then 0 else 33) else readCode S at_ 8
def prKind (S : DS) (at_ : Int) : Int := if readCode S at_ 8 = 0 ∧ isPage (readL S at_ 8).flatten = true then (bodyK (readL S at_ 8).flatten : Int) else 0
def prBody (S : DS) (at_ : Int) : List UInt8 := if readCode S at_ 8 = 0 ∧ isPage (readL S at_ 8).flatten = true then bodyL (readL S at_ 8).flatten else []
theorem now_64 {W : World} {B g : Nat} {S : DS} (h : DevAt W B g S) : All64 S.now := by
  obtain ⟨hS1, hS2, hS3, hS4, hS5, hS6, hS7, hS8, hS9, hS10, hS11⟩ := h.ok
  assumption
theorem flat_64 : ∀ (ls : List (List UInt8)), All64 ls → ls.flatten.length = 64 * ls.length
  | [], _ => rfl
  | a :: r, h => by
    rw [List.flatten_cons, List.length_append, flat_64 r fun s hs => h s (List.mem_cons_of_mem _ hs), h a List.mem_cons_self, List.length_cons]
    omega
theorem readL_64 {S : DS} (h : All64 S.now) (at_ n : Int) : All64 (readL S at_ n) := by
  unfold readL
  split
  · exact fun s hs => h s (List.mem_of_mem_drop (List.mem_of_mem_take hs))
  · exact fun s hs => absurd hs List.not_mem_nil
theorem readL_8 (S : DS) (at_ : Int) : (readL S at_ 8).length ≤ 8 := by
  unfold readL
  split
  · rw [List.length_take]
    exact Nat.min_le_left _ _
  · exact Nat.zero_le _

set_option maxRecDepth 100000 in
set_option maxHeartbeats 1000000 in
theorem pread_any (W : World) (B g : Nat) (S : DS) (h : DevAt W B g S) (hh : HalfAt W) (hB0 : 0 < B) (hn : S.n < 1048576) (hl : -1 ≤ S.left) (hB : B ≤ W.heap.size) (at_ : Int) :
    Calls Tryd.prog 34 #[.pointer (some ⟨g, 0, none⟩), .int .i64 at_] W fun e W' => ∃ A c, e = .returned (.tuple #[.int .i64 (prKind S at_), .slice A (prBody S at_).length c, .int .i64 (prCode S at_)]) ∧ (prBody S at_).length ≤ c ∧ W'.ownsRow 0 5 1 (.slice A (prBody S at_).length c) (prBody S at_).length (byts (prBody S at_)) ∧ DevAt W' B g (readS S at_ 8) ∧ DKeep B W W' := by
  have HR := hide (read_any W B g S h hn hl at_ 8 (by omega))
  have h64 := readL_64 (now_64 h) at_ 8
  have h8 := readL_8 S at_
  have HFL := hide (flat_64 _ h64)
  have HH := hide hh
  have HBW := hide hB
  clear h hh h64 hB
  by_cases hc0 : readCode S at_ 8 = 0
  · have e1 : prCode S at_ = if isPage (readL S at_ 8).flatten = true then 0 else 33 := by unfold prCode; rw [if_pos hc0]
    have e2 : prKind S at_ = if isPage (readL S at_ 8).flatten = true then (bodyK (readL S at_ 8).flatten : Int) else 0 := by unfold prKind; simp [hc0]
    have e3 : prBody S at_ = if isPage (readL S at_ 8).flatten = true then bodyL (readL S at_ 8).flatten else [] := by unfold prBody; simp [hc0]
    rw [hc0] at HR
    have E1 := hide e1
    have E2 := hide e2
    have E3 := hide e3
    clear e1 e2 e3 hc0
    generalize prCode S at_ = pc at *
    generalize prKind S at_ = pk at *
    generalize prBody S at_ = pb at *
    generalize readS S at_ 8 = S' at *
    generalize readL S at_ 8 = ls at *
    obtain ⟨L, hL⟩ : ∃ L, ls.flatten = L := ⟨_, rfl⟩
    rw [hL] at HFL E1 E2 E3
    have HLE := hide hL
    clear hL
    go_enter Tryd.func34, Tryd.ntmps34
    go_wp2_with fail
    refine (unhide HR).mono ?_
    rintro e w1 ⟨A1, c1, rfl, hr, hd, hk⟩
    have HD1 := hide hd
    have HK1 := hide hk
    have HH1 := hide (HH.out.low hB0 hk.1)
    have HJ := hide (join_any ls A1 ls.length c1 w1.heap.size w1 rfl (by omega) (by have := HFL.out; rw [HLE.out]; omega) (Nat.le_refl _) hr.rows)
    rw [HLE.out] at HJ
    clear hd hk hr HR
    go_wp2_with fail
    refine (unhide HJ).mono ?_
    rintro e w2 ⟨v, rfl, ho, hbe⟩
    obtain ⟨A2, c2, rfl, hc2, hb2⟩ := own_slice ho
    have HU := hide (unpack_own L A2 L.length c2 w2 rfl (by have := HFL.out; omega) hc2 hb2 (HH1.out.below hbe))
    have HD2 := hide (HD1.out.lift hbe)
    have HK2 := hide (HK1.out.trans (DKeep.of_below hbe (by have := HK1.out.1.size; have := HBW.out; omega)))
    clear ho hb2 hbe HJ HD1 HK1 HH1
    go_wp2_with fail
    refine (unhide HU).mono ?_
    rintro e w3 ⟨A3, n3, c3, kk, code, rfl, hbe, ⟨hp, rfl, rfl, rfl, hc3, hb3, ho3⟩ | ⟨hp, rfl, rfl, rfl, rfl, rfl⟩⟩
    · have HPP := hide hp
      clear hp
      have HD3 := hide (HD2.out.lift hbe)
      have HK3 := hide (HK2.out.trans (DKeep.of_below hbe (by have := HK2.out.1.size; have := HBW.out; omega)))
      have HB3 := hide ho3
      have HC3 := hide hc3
      clear hb3 ho3 hbe HU HD2 HK2 hc3
      go_wp2
      refine bodyPost_ret (results_tmp3 rfl _ _ _) rfl ?_
      rw [E1.out, E2.out, E3.out, HPP.out]
      exact ⟨A3, c3, rfl, HC3.out, HB3.out, HD3.out, HK3.out⟩
    · have HPP := hide hp
      clear hp
      have HD3 := hide (HD2.out.lift hbe)
      have HK3 := hide (HK2.out.trans (DKeep.of_below hbe (by have := HK2.out.1.size; have := HBW.out; omega)))
      clear hbe HU HD2 HK2
      go_wp2
      refine bodyPost_ret (results_tmp3 rfl _ _ _) rfl ?_
      rw [E1.out, E2.out, E3.out, HPP.out]
      exact ⟨none, 0, rfl, Nat.le_refl _, World.ownsRow_nil _ _ _ _, HD3.out, HK3.out⟩
  · have e1 : prCode S at_ = readCode S at_ 8 := by unfold prCode; rw [if_neg hc0]
    have e2 : prKind S at_ = 0 := by unfold prKind; rw [if_neg fun h => hc0 h.1]
    have e3 : prBody S at_ = [] := by unfold prBody; rw [if_neg fun h => hc0 h.1]
    have hne : (readCode S at_ 8 != 0) = true := by simpa using hc0
    rw [e1, e2, e3]
    clear e1 e2 e3 hc0
    generalize readS S at_ 8 = S' at *
    generalize readL S at_ 8 = ls at *
    generalize readCode S at_ 8 = cd at *
    go_enter Tryd.func34, Tryd.ntmps34
    go_wp2_with fail
    refine (unhide HR).mono ?_
    rintro e w1 ⟨A1, c1, rfl, hr, hd, hk⟩
    have HD1 := hide hd
    have HK1 := hide hk
    clear hd hk hr HR
    go_wp2
    refine bodyPost_ret (results_tmp3 rfl _ _ _) rfl ?_
    exact ⟨none, 0, rfl, Nat.le_refl _, World.ownsRow_nil _ _ _ _, HD1.out, HK1.out⟩
end Go.Proofs.YtenhjnicadjbaaaDoor
