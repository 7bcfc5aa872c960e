/-
  The walk of icehouselaw14.PagePacks. Conditions: the arguments read as an integer, a slice of slices of bytes, a slice of bytes; the table half reads as the text lays it.
-/
import Derived.Test.YtenhjnicadjbaaaDoorRefUnpack
namespace Go.Proofs.YtenhjnicadjbaaaDoor
open Go Go.RowKit

/-- a packed page is a page -/
theorem isPage_pack {k : Nat} {l : List UInt8} (hk1 : 1 ≤ k) (hk2 : k ≤ 255) (hl : l.length ≤ 505) : isPage (pageL k l) = true ∧ bodyK (pageL k l) = k ∧ bodyL (pageL k l) = l := by
  have hlen := pageL_len k hl
  have hx : pageL k l = UInt8.ofNat k :: UInt8.ofNat (l.length / 256) :: UInt8.ofNat l.length :: ((l ++ List.replicate (505 - l.length) 0) ++ le4 (crcN (pageB k l))) := by
    unfold pageL frameL pageB
    simp
  have hK : bodyK (pageL k l) = k := by
    rw [hx]
    show (UInt8.ofNat k).toNat = k
    rw [UInt8.toNat_ofNat']
    omega
  have hN : bodyN (pageL k l) = l.length := by
    rw [hx]
    show 256 * (UInt8.ofNat (l.length / 256)).toNat + (UInt8.ofNat l.length).toNat = l.length
    rw [UInt8.toNat_ofNat', UInt8.toNat_ofNat']
    omega
  have hL : bodyL (pageL k l) = l := by
    unfold bodyL
    rw [hN]
    conv => lhs; rw [hx]
    rw [List.drop_succ_cons, List.drop_succ_cons, List.drop_succ_cons, List.drop_zero, List.append_assoc, List.take_left']
    rfl
  refine ⟨?_, hK, hL⟩
  unfold isPage
  rw [hK, hN, hL, hlen, decide_eq_true hl, decide_eq_true hk1]
  simp

set_option maxRecDepth 100000 in
set_option maxHeartbeats 2000000 in
theorem pagePacks_yes (t : Int) (ls : List (List UInt8)) (lb : List UInt8) (A Ab : Option Addr) (n c nb cb : Nat) (w : World) (hn : n = ls.length) (hnb : nb = lb.length) (hf : fits14 ls = true) (hlb : lb.length ≤ 1000) (hcb : lb.length ≤ cb) (hA : RowsAt w w.heap.size A ls) (hAb : BytesAt w w.heap.size Ab lb) (hh : HalfAt w) :
    Calls Tryd.prog 10 #[.int .i64 t, .slice A n c, .slice Ab nb cb] w fun e w' => e = .returned (.bool true) ∧ Below w.heap.size w w' := by
  subst hn hnb
  obtain ⟨i0, hi0, hz0, hz1, hz2⟩ := info_parts info_u8
  obtain ⟨hl21, hl600⟩ := fits14_yes hf
  have hLl := flat_len14 hl21 hl600
  have HAb := hide hAb
  have HH := hide hh
  have HJ := hide (joined14_yes ls A ls.length c w rfl hl21 hl600 hA)
  have HPK := hide (fun (W : World) (hW : Below w.heap.size w W) => pack_post t ls A ls.length c w.heap.size W rfl (by omega) (by omega) hW.size (hA.lift hW (Nat.le_refl _)) (hh.below hW))
  have h1000 : decide ((1000 : Int) < (lb.length : Int)) = false := decide_eq_false (by omega)
  clear hA hAb hh hl600 hf
  go_enter Tryd.func10, Tryd.ntmps10
  go_wp2_with fail
  refine (unhide HJ).mono ?_
  rintro e u1 ⟨A', c', rfl, hc', hb', hbe⟩
  have HB1 := hide hb'
  have HE1 := hide hbe
  clear hb' hbe HJ
  generalize ls.flatten = all at *
  go_wp2_with fail
  refine (awake14 u1 ((unhide HH).below HE1.out)).mono ?_
  rintro e u2 ⟨rfl, hbe2⟩
  have HE2 := hide (HE1.out.trans (hbe2.mono HE1.out.size))
  have HB2 := hide (HB1.out.lift hbe2 hbe2.size)
  clear hbe2
  go_wp2_with fail
  refine (unhide HPK u2 HE2.out).mono ?_
  rintro e u3 ⟨P1, m1, d1, code1, rfl, hbe3, hp1⟩
  have HE3 := hide (HE2.out.trans (hbe3.mono HE2.out.size))
  have HB3 := hide (HB2.out.lift hbe3 hbe3.size)
  have HP1 := hide hp1
  clear hp1 hbe3 HPK
  go_wp2_with fail
  refine (refPack_post t all A' all.length c' u3.heap.size u3 rfl (by omega) (Nat.le_refl _) HB3.out).mono ?_
  rintro e u4 ⟨P2, m2, d2, code2, rfl, hbe4, hp2⟩
  have HE4 := hide (HE3.out.trans (hbe4.mono HE3.out.size))
  have HB4 := hide (HB3.out.lift hbe4 hbe4.size)
  have HE34 := hide hbe4
  have hp1 := HP1.out
  clear hbe4 HP1
  -- the end: octets that are, or are not, a page
  have HFIN : Hid (∀ W, Below w.heap.size w W → True) := fun _ _ => trivial
  clear HFIN
  rcases hp1 with ⟨hp1, rfl, rfl, hd1, hb1⟩ | ⟨hp1, rfl, rfl, rfl, hcode1⟩
  · rcases hp2 with ⟨_, rfl, rfl, hd2, hb2⟩ | ⟨hp2, _⟩
    · have hpp := hp1
      unfold packs at hpp
      simp only [Bool.and_eq_true, decide_eq_true_eq] at hpp
      obtain ⟨q1, q2, q3⟩ := isPage_pack (k := t.toNat) (l := all) (by omega) (by omega) hpp.2.2
      have htt : ((t.toNat : Nat) : Int) = t := by omega
      have hpl := pageL_len t.toNat hpp.2.2
      have HU := hide (fun W (hW : Below u3.heap.size u3 W) => unpack_any (pageL t.toNat all) P1 (pageL t.toNat all).length d1 W rfl (by omega) hd1 (hb1.lift hW hW.size) ((unhide HH).below (HE3.out.trans (hW.mono HE3.out.size))))
      have s1 := conv_str _ d1 rfl (hb1.lift HE34.out HE34.out.size)
      have s2 := conv_str _ d2 rfl hb2
      have HU2 := hide (unhide HU u4 HE34.out)
      have hss : ((strOf (pageL t.toNat all)).toList == (strOf (pageL t.toNat all)).toList) = true := by simp
      have HQ1 := hide q1
      have HQ2 := hide q2
      have HQ3 := hide q3
      have HTT := hide htt
      clear hp1 hpp hb1 hb2 hd1 hd2 HU q1 q2 q3 htt hpl
      generalize pageL t.toNat all = pg at *
      go_wp2_with fail
      refine (unhide HU2).mono ?_
      rintro e u5 ⟨Az, nz, cz, kk, code, rfl, hbe5, ⟨_, rfl, rfl, rfl, hcz, hbz⟩ | ⟨hno, _⟩⟩
      · rw [HQ3.out] at hbz hcz ⊢
        rw [HQ2.out, HTT.out]
        have HE5 := hide (HE4.out.trans (hbe5.mono HE4.out.size))
        have HB5 := hide (HB4.out.lift hbe5 hbe5.size)
        have s3 := conv_str _ cz rfl hbz
        have s4 := conv_str _ c' rfl HB5.out
        have htq : (t != t) = false := by simp
        have hal : ((strOf all).toList == (strOf all).toList) = true := by simp
        clear hbz hbe5 HU2 s1 s2 hss
        go_wp2_with (at_builtin; refine wpList_append_any _ rfl (.tmp 84) (.tmp 85) _ rfl u5.heap.size 5 i0 _ 1 1 Tryd.underlying23 hi0 hz0 hz1 hz2 rfl (by omega) (.slice (some ⟨u5.heap.size, 0, none⟩) 0 0) 0 [] rfl (World.ownsRow_made u5 #[] 0 (Nat.le_refl _) (by simp only [maxLen]; omega) rfl) (u5.heap.size + 1) Ab lb.length cb (byts lb) rfl ((Reads.alloc ((unhide HAb).lift HE5.out HE5.out.size) (Nat.le_refl _) _).more (by omega)) byts_one (by simp only [maxLen]; omega) (by omega) (by simp) ?_; intro v7 u7 hown7 hg7 hat7)
        rw [Nat.zero_add, List.nil_append] at hown7
        have hbe7 : Below u5.heap.size u5 u7 := (Below.alloc (Below.refl _ _) (Nat.le_refl _) _).grown hg7 (by simp) (fun q hq => by simp [Value.ownBlock] at hq; omega)
        obtain ⟨A7, c7, rfl, hc7, hb7⟩ := own_slice hown7
        have HE7 := hide (HE5.out.trans (hbe7.mono HE5.out.size))
        have HAb7 := hide ((unhide HAb).lift HE7.out HE7.out.size)
        clear hown7 hg7 hat7 hbe7
        refine (unpack_any lb A7 lb.length c7 u7 rfl (by omega) hc7 hb7 ((unhide HH).below HE7.out)).mono ?_
        rintro e u8 ⟨A8, n8, c8, k8, code8, rfl, hbe8, hp8⟩
        have HP8 := hide hp8
        have HE8 := hide (HE7.out.trans (hbe8.mono HE7.out.size))
        have HAb8 := hide (HAb7.out.lift hbe8 hbe8.size)
        clear hp8 hbe8 hb7
        go_wp2_with fail
        refine (refUnpack_any lb Ab lb.length cb u8 rfl hcb HAb8.out).mono ?_
        rintro e u9 ⟨A9, n9, c9, k9, is9, rfl, hbe9, hp9⟩
        have HE9 := hide (HE8.out.trans (hbe9.mono HE8.out.size))
        have hp8 := HP8.out
        rcases hp8 with ⟨hq8, rfl, rfl, rfl, hcc8, hb8⟩ | ⟨hq8, rfl, rfl, rfl, rfl, rfl⟩
        · rcases hp9 with ⟨_, rfl, rfl, rfl, hcc9, hb9⟩ | ⟨hq9, _⟩
          · have t1 := conv_str _ c8 rfl (hb8.lift hbe9 hbe9.size)
            have t2 := conv_str _ c9 rfl hb9
            have t3 : ((bodyK lb : Int) == (bodyK lb : Int)) = true := by simp
            have t4 : ((strOf (bodyL lb)).toList == (strOf (bodyL lb)).toList) = true := by simp
            clear hb8 hb9 hbe9 HP8
            generalize bodyL lb = bl at *
            generalize bodyK lb = bk at *
            go_wp2
            go_ret
            exact ⟨rfl, HE9.out⟩
          · rw [hq8] at hq9
            cases hq9
        · rcases hp9 with ⟨hq9, _⟩ | ⟨_, rfl, rfl, rfl, rfl, rfl⟩
          · rw [hq8] at hq9
            cases hq9
          · have t1 := conv_str 0 0 rfl (BytesAt.nil u9 u9.heap.size none)
            have t4 : ((strOf []).toList == (strOf []).toList) = true := by simp
            clear hbe9 HP8
            go_wp2
            go_ret
            exact ⟨rfl, HE9.out⟩
      · rw [HQ1.out] at hno
        cases hno
    · rw [hp1] at hp2
      cases hp2
  · rcases hp2 with ⟨hp2, _⟩ | ⟨_, rfl, rfl, rfl, hcode2⟩
    · rw [hp1] at hp2
      cases hp2
    · have hcc : code1 = code2 := by
        rcases hcode1 with ⟨rfl, h⟩ | ⟨rfl, h⟩ <;> rcases hcode2 with ⟨rfl, h'⟩ | ⟨rfl, h'⟩ <;> first | rfl | omega
      have x1 : (code1 == 0) = false := by rcases hcode1 with ⟨rfl, _⟩ | ⟨rfl, _⟩ <;> rfl
      have x2 : (code1 != code1) = false := by simp
      subst hcc
      have s1 := conv_str 0 0 rfl (BytesAt.nil u4 u4.heap.size none)
      have hss : ((strOf []).toList == (strOf []).toList) = true := by simp
      clear hcode1 hcode2 hp1
      go_wp2_with (at_builtin; refine wpList_append_any _ rfl (.tmp 84) (.tmp 85) _ rfl u4.heap.size 5 i0 _ 1 1 Tryd.underlying23 hi0 hz0 hz1 hz2 rfl (by omega) (.slice (some ⟨u4.heap.size, 0, none⟩) 0 0) 0 [] rfl (World.ownsRow_made u4 #[] 0 (Nat.le_refl _) (by simp only [maxLen]; omega) rfl) (u4.heap.size + 1) Ab lb.length cb (byts lb) rfl ((Reads.alloc ((unhide HAb).lift HE4.out HE4.out.size) (Nat.le_refl _) _).more (by omega)) byts_one (by simp only [maxLen]; omega) (by omega) (by simp) ?_; intro v7 u7 hown7 hg7 hat7)
      rw [Nat.zero_add, List.nil_append] at hown7
      have hbe7 : Below u4.heap.size u4 u7 := (Below.alloc (Below.refl _ _) (Nat.le_refl _) _).grown hg7 (by simp) (fun q hq => by simp [Value.ownBlock] at hq; omega)
      obtain ⟨A7, c7, rfl, hc7, hb7⟩ := own_slice hown7
      have HE7 := hide (HE4.out.trans (hbe7.mono HE4.out.size))
      have HAb7 := hide ((unhide HAb).lift HE7.out HE7.out.size)
      clear hown7 hg7 hat7 hbe7
      refine (unpack_any lb A7 lb.length c7 u7 rfl (by omega) hc7 hb7 ((unhide HH).below HE7.out)).mono ?_
      rintro e u8 ⟨A8, n8, c8, k8, code8, rfl, hbe8, hp8⟩
      have HP8 := hide hp8
      have HE8 := hide (HE7.out.trans (hbe8.mono HE7.out.size))
      have HAb8 := hide (HAb7.out.lift hbe8 hbe8.size)
      clear hp8 hbe8 hb7
      go_wp2_with fail
      refine (refUnpack_any lb Ab lb.length cb u8 rfl hcb HAb8.out).mono ?_
      rintro e u9 ⟨A9, n9, c9, k9, is9, rfl, hbe9, hp9⟩
      have HE9 := hide (HE8.out.trans (hbe9.mono HE8.out.size))
      have hp8 := HP8.out
      rcases hp8 with ⟨hq8, rfl, rfl, rfl, hcc8, hb8⟩ | ⟨hq8, rfl, rfl, rfl, rfl, rfl⟩
      · rcases hp9 with ⟨_, rfl, rfl, rfl, hcc9, hb9⟩ | ⟨hq9, _⟩
        · have t1 := conv_str _ c8 rfl (hb8.lift hbe9 hbe9.size)
          have t2 := conv_str _ c9 rfl hb9
          have t3 : ((bodyK lb : Int) == (bodyK lb : Int)) = true := by simp
          have t4 : ((strOf (bodyL lb)).toList == (strOf (bodyL lb)).toList) = true := by simp
          clear hb8 hb9 hbe9 HP8
          generalize bodyL lb = bl at *
          generalize bodyK lb = bk at *
          go_wp2
          go_ret
          exact ⟨rfl, HE9.out⟩
        · rw [hq8] at hq9
          cases hq9
      · rcases hp9 with ⟨hq9, _⟩ | ⟨_, rfl, rfl, rfl, rfl, rfl⟩
        · rw [hq8] at hq9
          cases hq9
        · have t1 := conv_str 0 0 rfl (BytesAt.nil u9 u9.heap.size none)
          have t4 : ((strOf []).toList == (strOf []).toList) = true := by simp
          clear hbe9 HP8
          go_wp2
          go_ret
          exact ⟨rfl, HE9.out⟩

set_option maxRecDepth 100000 in
set_option maxHeartbeats 1000000 in
theorem pagePacks_no (t : Int) (ls : List (List UInt8)) (A Ab : Option Addr) (n c nb cb : Nat) (w : World) (hn : n = ls.length) (hno : fits14 ls = false ∨ (fits14 ls = true ∧ 1000 < nb)) (hA : RowsAt w w.heap.size A ls) (hh : HalfAt w) :
    Calls Tryd.prog 10 #[.int .i64 t, .slice A n c, .slice Ab nb cb] w fun e w' => e = .returned (.bool true) ∧ Below w.heap.size w w' := by
  subst hn
  have HH := hide hh
  rcases hno with hf | ⟨hf, h3⟩
  · have HJ := hide (joined14_no ls A ls.length c w rfl hf hA)
    clear hA hh hf
    go_enter Tryd.func10, Tryd.ntmps10
    go_wp2_with fail
    refine (unhide HJ).mono ?_
    rintro e w1 ⟨rfl, hbe⟩
    have HE := hide hbe
    clear hbe HJ
    go_wp2_with fail
    refine (awake14 w1 ((unhide HH).below (unhide HE))).mono ?_
    rintro e w2 ⟨rfl, hbe2⟩
    have HE2 := hide (HE.out.trans (hbe2.mono HE.out.size))
    clear hbe2
    go_wp2_with fail
    refine (awake14 w2 ((unhide HH).below (unhide HE2))).mono ?_
    rintro e w3 ⟨rfl, hbe3⟩
    have HE3 := hide (HE2.out.trans (hbe3.mono HE2.out.size))
    clear hbe3
    go_wp2
    go_ret
    exact ⟨rfl, HE3.out⟩
  · obtain ⟨hl21, hl600⟩ := fits14_yes hf
    have HJ := hide (joined14_yes ls A ls.length c w rfl hl21 hl600 hA)
    have h1000 : decide ((1000 : Int) < (nb : Int)) = true := decide_eq_true (by omega)
    clear hA hh hf hl600 hl21 h3
    go_enter Tryd.func10, Tryd.ntmps10
    go_wp2_with fail
    refine (unhide HJ).mono ?_
    rintro e w1 ⟨A', c', rfl, hc', hb', hbe⟩
    have HE := hide hbe
    clear hbe HJ hb'
    go_wp2_with fail
    refine (awake14 w1 ((unhide HH).below (unhide HE))).mono ?_
    rintro e w2 ⟨rfl, hbe2⟩
    have HE2 := hide (HE.out.trans (hbe2.mono HE.out.size))
    clear hbe2
    go_wp2_with fail
    refine (awake14 w2 ((unhide HH).below (unhide HE2))).mono ?_
    rintro e w3 ⟨rfl, hbe3⟩
    have HE3 := hide (HE2.out.trans (hbe3.mono HE2.out.size))
    clear hbe3
    go_wp2
    go_ret
    exact ⟨rfl, HE3.out⟩
end Go.Proofs.YtenhjnicadjbaaaDoor
