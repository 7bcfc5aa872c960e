/-
  The walk of journal's Commit. Conditions: the journal and the puts lie so, on a device that no call fails; there is room, or there is behind a Settle.
-/
import Derived.Test.YtogjdfiimflbaaaJrCmt
import Derived.Deep.CutRange
namespace Go.Proofs.Ytogjdfiimflbaaa
open Go Go.RowKit

def cmtJ (J : JS) (s : Nat) : JS := bif (roomR J s).2 then J else setJ J
def cmtN (J : JS) (N : List (List UInt8)) (s : Nat) : List (List UInt8) := bif (roomR J s).2 then N else settleN J N
def cmtA (J : JS) (s : Nat) : Nat := (roomR (cmtJ J s) s).1
theorem cmtN_len (J : JS) (N : List (List UInt8)) (s : Nat) : (cmtN J N s).length = N.length := by
  unfold cmtN
  cases (roomR J s).2
  · exact settleN_len J N
  · rfl
theorem cmtJ_next (J : JS) (s : Nat) : (cmtJ J s).next = J.next := by
  unfold cmtJ
  cases (roomR J s).2 <;> rfl
theorem cmtJ_z (J : JS) (s : Nat) : (cmtJ J s).z = J.z := by
  unfold cmtJ
  cases (roomR J s).2 <;> rfl
/-- a journal behind a Commit -/
def doneJ (J : JS) (ps : List PutL) : JS := { cmtJ J (ps.length + 2) with base := bif (cmtJ J (ps.length + 2)).count == 0 then cmtA J (ps.length + 2) else (cmtJ J (ps.length + 2)).base, pos := cmtA J (ps.length + 2) + (ps.length + 2), owed := (cmtJ J (ps.length + 2)).owed ++ ps, next := J.next + 1, count := (cmtJ J (ps.length + 2)).count + 1 }
def doneN (J : JS) (N : List (List UInt8)) (ps : List PutL) : List (List UInt8) := wsec (wsec (cmtN J N (ps.length + 2)) (cmtA J (ps.length + 2)) ((recL J.next ps).take (ps.length + 1) ++ [zero64])) (cmtA J (ps.length + 2) + (ps.length + 1)) [footL J.next]
/-- what a Commit must find -/
structure CmtOk (J : JS) (N : List (List UInt8)) (ps : List PutL) : Prop where
  one : 1 ≤ ps.length
  ten : ps.length ≤ 10
  puts : ∀ p ∈ ps, PutOk p ∧ J.z ≤ p.1 ∧ p.1 < N.length
  big : ps.length + 4 ≤ J.z
  z : J.z ≤ 65536
  next : J.next < 65535
  pos : J.pos < 65536
  owed : J.owed.length ≤ 1000
  room : (roomR J (ps.length + 2)).2 = true ∨ (Fit J N ∧ 0 < J.count)
  turn : (cmtJ J (ps.length + 2)).count = 0 ∨ (cmtJ J (ps.length + 2)).pos ≤ cmtA J (ps.length + 2)
  fits : cmtA J (ps.length + 2) + (ps.length + 2) ≤ N.length
  count : (cmtJ J (ps.length + 2)).count < 65535
theorem room_no {J : JS} {s : Nat} (h : (roomR J s).2 = false) : (roomR J s).1 = 2 ∧ (roomR (setJ J) s).1 = 2 := by
  unfold roomR at h ⊢
  by_cases h1 : J.pos + s ≤ J.z
  · rw [if_pos h1] at h
    cases h
  · have h2 : ¬ (setJ J).pos + s ≤ (setJ J).z := h1
    have h3 : (setJ J).count = 0 := rfl
    rw [if_neg h1, if_neg h2, if_pos h3]
    refine ⟨?_, rfl⟩
    split <;> rfl
theorem setCell_same {W : World} {q i : Nat} {t : TypeId} {cs : Array Value} {v : Value} (h : Blk W q t cs) (hi : cs[i]? = some v) : W.setCell ⟨q, i, none⟩ v = W := by
  unfold Blk at h
  have e : cs.setIfInBounds i v = cs := by
    apply Array.ext_getElem?
    intro k
    rw [Array.getElem?_setIfInBounds]
    by_cases hk : i = k
    · subst hk
      obtain ⟨hlt, hv⟩ := Array.getElem?_eq_some_iff.1 hi
      rw [if_pos rfl, if_pos hlt, hi]
    · rw [if_neg hk]
  unfold World.setCell
  congr 1
  apply Array.ext_getElem?
  intro k
  rw [Array.getElem?_modify]
  by_cases hk : q = k
  · subst hk
    rw [if_pos rfl, h]
    simp [e]
  · rw [if_neg hk]
@[reducible] def cf1V (jb ab lb sb : Nat) : Value := .func (.func 31) #[] #[.pointer (some ⟨jb, 0, none⟩), .pointer (some ⟨ab, 0, none⟩), .pointer (some ⟨lb, 0, none⟩), .pointer (some ⟨sb, 0, none⟩)]
@[reducible] def cf2V (jb ab lb sb : Nat) : Value := .func (.func 33) #[] #[.pointer (some ⟨jb, 0, none⟩), .pointer (some ⟨ab, 0, none⟩), .pointer (some ⟨sb, 0, none⟩), .pointer (some ⟨lb, 0, none⟩)]
theorem run_cmt1 (a : Array Value) (w : World) : (callFunc 31 a).run Try.prog w = .ok (.enter 31 a) w := by go_simp
theorem run_cmt2 (a : Array Value) (w : World) : (callFunc 33 a).run Try.prog w = .ok (.enter 33 a) w := by go_simp
/-- ahead of the steps of Commit -/
def CmtI (w5 : World) (B g c a : Nat) (N ls : List (List UInt8)) (b : List UInt8) : Nat → World → Prop
  | 0, w => DKeep B w5 w ∧ DevC w B g c N 0
  | 1, w => DKeep B w5 w ∧ DevC w B g (c + 1) (wsec N a ls) ls.length
  | 2, w => DKeep B w5 w ∧ DevC w B g (c + 2) (wsec N a ls) 0
  | _, w => DKeep B w5 w ∧ DevC w B g (c + 3) (wsec (wsec N a ls) (a + (ls.length - 1)) [b]) 1
theorem CmtI.keep {w5 : World} {B g c a : Nat} {N ls : List (List UInt8)} {b : List UInt8} : ∀ {k : Nat} {w : World}, CmtI w5 B g c a N ls b k w → DKeep B w5 w
  | 0, _, h => h.1
  | 1, _, h => h.1
  | 2, _, h => h.1
  | _ + 3, _, h => h.1
theorem recL_last (n : Nat) (ps : List PutL) : (recL n ps)[ps.length + 1]? = some (footL n) := by
  unfold recL
  rw [List.getElem?_append_right (by simp)]
  simp
theorem DevC.types {W W' : World} {B g c m : Nat} {N : List (List UInt8)} (h : DevC W B g c N m) (k : ∀ q cs t, Blk W q t cs → t ≠ 37 → Blk W' q t cs) : DevC W' B g c N m := by
  obtain ⟨S, ⟨gk, gn, bv, qv, hi⟩, hr⟩ := h
  have own : ∀ {e : TypeId} {s n : Nat} {v : Value} {xs : List Value}, W.ownsRow B e s v n xs → e ≠ 37 → W'.ownsRow B e s v n xs := fun h he => by
    refine ⟨h.1, ?_⟩
    rcases h.2 with hn | ⟨g, cap, cur, rfl, hb, hgg, rest⟩
    · exact .inl hn
    · exact .inr ⟨g, cap, cur, rfl, hb, k _ _ _ hgg he, rest⟩
  exact ⟨S, ⟨gk, gn, bv, qv, hi.ok, hi.bg, hi.bk, hi.bn, hi.ne, k _ _ _ hi.dev (by decide), k _ _ _ hi.kept (by decide), k _ _ _ hi.now (by decide), own hi.bad (by decide), own hi.queue (by decide)⟩, hr⟩
/-- as JW, where the rows of puts may change -/
def JV (W0 W : World) (B g c : Nat) (N : List (List UInt8)) (m j : Nat) (cs : Array Value) : Prop := B ≤ j ∧ DevC W B g c N m ∧ Blk W j 68 cs ∧ JKeep B W0 W
section
variable {W0 W W' : World} {B g c m j : Nat} {N : List (List UInt8)} {cs : Array Value}
theorem JW.jv (h : JW W0 W B g c N m j cs) : JV W0 W B g c N m j cs := ⟨h.1, h.2.1, h.2.2.1, h.2.2.2.1⟩
theorem JW.below (h : JW W0 W B g c N m j cs) (k : Below W.heap.size W W') (hB : B ≤ W.heap.size) : JW W0 W' B g c N m j cs :=
  ⟨h.1, h.2.1.lift k, h.2.2.1.below k h.2.2.1.lt, h.2.2.2.1.trans (JKeep.of_below k hB), h.2.2.2.2.trans (PKeep.of_below k)⟩
theorem JV.set (h : JV W0 W B g c N m j cs) (i : Nat) (u : Value) : JV W0 (W.setCell ⟨j, i, none⟩ u) B g c N m j (cs.setIfInBounds i u) :=
  ⟨h.1, h.2.1.far h.2.2.1 (by decide) (by decide) (by decide) (by decide) u, h.2.2.1.set_ i u, h.2.2.2.trans (JKeep.set h.1 h.2.2.1 i u)⟩
theorem JV.below (h : JV W0 W B g c N m j cs) (k : Below W.heap.size W W') (hB : B ≤ W.heap.size) : JV W0 W' B g c N m j cs :=
  ⟨h.1, h.2.1.lift k, h.2.2.1.below k h.2.2.1.lt, h.2.2.2.trans (JKeep.of_below k hB)⟩
theorem JV.grown {v : Value} {n : Nat} {xs : List Value} (h : JV W0 W B g c N m j cs) (hB : B ≤ W.heap.size) (ho : W.ownsRow B 37 2 v n xs) (hg : W.grownBy W' v.ownBlock) : JV W0 W' B g c N m j cs :=
  have k : ∀ q cs t, Blk W q t cs → t ≠ 37 → Blk W' q t cs := fun q cs t hb ht => (Fr.of_grown hg).blk hb (fun e => own_blk_ne ho hb (fun e => ht e.symm) e)
  ⟨h.1, h.2.1.types k, k _ _ _ h.2.2.1 (by decide), h.2.2.2.trans (JKeep.grown hB ho hg)⟩
end
def CmtLoop (W wy : World) (B g c : Nat) (N : List (List UInt8)) (j : Nat) (J : JS) (A : Option Addr) (ps : List PutL) (k : Nat) (wr : World) : Prop :=
  ∃ v us, JV wy wr B g c N 1 j (jrnC g J v) ∧ wr.ownsRow B 37 2 v (J.owed ++ ps.take k).length (putsC (J.owed ++ ps.take k) us) ∧ SecVs wr (fun _ => True) us ((J.owed ++ ps.take k).map (·.2)) ∧ (∀ ad, A = some ad → v.ownBlock ≠ some ad.block) ∧ PutsAt wr A ps
section
variable {W : World} {B T j g c : Nat} {J : JS} {N : List (List UInt8)}
def CmtRel (W1 : World) (B T j g c jb lb ab gl k : Nat) (J : JS) (N : List (List UInt8)) (s : Nat) (x : World) : Prop :=
  JAt x B T j g (cmtJ J s) ∧ DevC x B g (c + J.owed.length + 4) (cmtN J N s) 0 ∧ Blk x jb 29 #[.pointer (some ⟨j, 0, none⟩)] ∧ Blk x lb 43 #[.slice (some ⟨gl, 0, none⟩) s k] ∧ Blk x ab 3 #[.int .i64 (cmtA J s : Int)] ∧ JKeep B W1 x ∧ PKeep W1 x ∧ W1.heap.size ≤ x.heap.size
set_option maxRecDepth 100000 in
set_option maxHeartbeats 4000000 in
theorem commit_any (h : JAt W B T j g J) (hD : DevC W B g c N 0) (hB : B ≤ W.heap.size) (hc : c + 5000 < 1048576) {A : Option Addr} {ps : List PutL} {k : Nat} (hA : PutsAt W A ps) (hgp : ∀ ad, A = some ad → T ≤ ad.block) (hok : CmtOk J N ps) :
    Calls Try.prog 8 #[.pointer (some ⟨j, 0, none⟩), .slice A ps.length k] W fun e W' => e = .returned (.tuple #[.bool true, .int .i64 0]) ∧ JAt W' B W'.heap.size j g (doneJ J ps) ∧ DevC W' B g (c + J.owed.length + 8) (doneN J N ps) 0 ∧ JKeep B W W' := by
  have HOK := hide hok
  have HPS := hide hA
  have HGP := hide hgp
  have hbx : Below W.heap.size W (W.alloc (.cells #[.pointer (some ⟨j, 0, none⟩)] 29)) := (Below.refl _ _).alloc (Nat.le_refl _) _
  have HBX := hide hbx
  have HJ1 := hide (h.lift hbx)
  have HD1 := hide (hD.lift hbx)
  have HP1 := hide (hA.below hbx)
  have HJB1 := hide (Blk.new W 29 #[.pointer (some ⟨j, 0, none⟩)])
  clear h hD hA hgp hbx
  obtain ⟨w1, hw1⟩ : ∃ w1, W.alloc (.cells #[.pointer (some ⟨j, 0, none⟩)] 29) = w1 := ⟨_, rfl⟩
  rw [hw1] at HBX HJ1 HD1 HP1 HJB1
  have HB1 : Hid (B ≤ w1.heap.size) := Nat.le_trans hB HBX.out.size
  have HFA := hide (fault_any (k := k) HJ1.out HD1.out HP1.out hok.one hok.ten hok.puts hok.big hok.z)
  have r0 : w1.cell? ⟨W.heap.size, 0, none⟩ = some (.pointer (some ⟨j, 0, none⟩)) := HJB1.out.cell 0
  obtain ⟨h1, h10, hp2, hbig, hz, hnx, hpos, how, hroom, hturn, hfits, hcnt⟩ := hok
  clear hp2 hroom hturn hfits hcnt
  go_enter Try.func8, Try.ntmps8
  go_wp2_with fail
  refine (unhide HFA).mono ?_
  rintro e w2 ⟨rfl, hb2⟩
  have HJ2 := hide (HJ1.out.lift hb2)
  have HD2 := hide (HD1.out.lift hb2)
  have HP2 := hide (HP1.out.below hb2)
  have HJB2 := hide (HJB1.out.below hb2 HJB1.out.lt)
  have HB2 : Hid (Below W.heap.size W w2) := HBX.out.trans (hb2.mono HBX.out.size)
  clear r0 hb2 HFA hw1 HJ1 HD1 HP1 HJB1 HBX HB1
  have r0 : w2.cell? ⟨W.heap.size, 0, none⟩ = some (.pointer (some ⟨j, 0, none⟩)) := HJB2.out.cell 0
  have r6 : w2.cell? ⟨j, 6, none⟩ = some (.int .i64 (J.next : Int)) := by
    obtain ⟨_, _, _, hb6⟩ := HJ2.out.cells
    exact hb6.cell 6
  have HRC := hide (record_any J.next ps A k w2 (by omega) h1 h10 (fun p hp => (HOK.out.puts p hp).1) HP2.out)
  go_wp2_with fail
  refine (unhide HRC).mono ?_
  rintro e w3 ⟨A3, k3, rfl, hr3, hb3, hk3⟩
  obtain ⟨gl, cur3, e3, _⟩ := hr3 (by rw [recL_len]; omega)
  subst e3
  have HB3 : Hid (Below W.heap.size W w3) := HB2.out.trans (hb3.mono HB2.out.size)
  have hal : Below w3.heap.size w3 (w3.alloc (.cells #[.slice (some ⟨gl, 0, none⟩) (ps.length + 2) k3] 43)) := (Below.refl _ _).alloc (Nat.le_refl _) _
  have h24 : Below w2.heap.size w2 (w3.alloc (.cells #[.slice (some ⟨gl, 0, none⟩) (ps.length + 2) k3] 43)) := hb3.trans (hal.mono hb3.size)
  have HLB := hide (Blk.new w3 43 #[.slice (some ⟨gl, 0, none⟩) (ps.length + 2) k3])
  have HRL := hide (hr3.below hal)
  have HJ4 := hide (HJ2.out.lift h24)
  have HD4 := hide (HD2.out.lift h24)
  have HP4 := hide (HP2.out.below h24)
  have HJB4 := hide (HJB2.out.below h24 HJB2.out.lt)
  have HB4 : Hid (Below W.heap.size W (w3.alloc (.cells #[.slice (some ⟨gl, 0, none⟩) (ps.length + 2) k3] 43))) := HB3.out.trans (hal.mono HB3.out.size)
  clear hr3 hb3 hal h24 r0 r6 HRC HJ2 HD2 HP2 HJB2 HB2 HB3
  have s0 : (w3.alloc (.cells #[.slice (some ⟨gl, 0, none⟩) (ps.length + 2) k3] 43)).cell? ⟨W.heap.size, 0, none⟩ = some (.pointer (some ⟨j, 0, none⟩)) := HJB4.out.cell 0
  have s1 : (w3.alloc (.cells #[.slice (some ⟨gl, 0, none⟩) (ps.length + 2) k3] 43)).cell? ⟨w3.heap.size, 0, none⟩ = some (.slice (some ⟨gl, 0, none⟩) (ps.length + 2) k3) := HLB.out.cell 0
  obtain ⟨w4, hw4⟩ : ∃ w4, w3.alloc (.cells #[.slice (some ⟨gl, 0, none⟩) (ps.length + 2) k3] 43) = w4 := ⟨_, rfl⟩
  rw [hw4] at HLB HRL HJ4 HD4 HP4 HJB4 HB4 s0 s1
  have HRO := hide (room_any HJ4.out (ps.length + 2) (by omega) hpos hz)
  go_wp2_with fail
  refine (unhide HRO).mono ?_
  rintro e w5 ⟨rfl, hb5⟩
  have hal : Below w5.heap.size w5 (w5.alloc (.cells #[.int .i64 ((roomR J (ps.length + 2)).1 : Int)] 3)) := (Below.refl _ _).alloc (Nat.le_refl _) _
  have h24 : Below w4.heap.size w4 (w5.alloc (.cells #[.int .i64 ((roomR J (ps.length + 2)).1 : Int)] 3)) := hb5.trans (hal.mono hb5.size)
  have HAB := hide (Blk.new w5 3 #[.int .i64 ((roomR J (ps.length + 2)).1 : Int)])
  have HRL5 := hide (HRL.out.below h24)
  have HJ5 := hide (HJ4.out.lift h24)
  have HD5 := hide (HD4.out.lift h24)
  have HP5 := hide (HP4.out.below h24)
  have HJB5 := hide (HJB4.out.below h24 HJB4.out.lt)
  have HLB5 := hide (HLB.out.below h24 HLB.out.lt)
  have HB5 : Hid (Below W.heap.size W (w5.alloc (.cells #[.int .i64 ((roomR J (ps.length + 2)).1 : Int)] 3))) := HB4.out.trans (h24.mono HB4.out.size)
  clear hb5 hal h24 s0 s1 HRO HRL HJ4 HD4 HP4 HJB4 HLB HB4
  obtain ⟨w6, hw6⟩ : ∃ w6, w5.alloc (.cells #[.int .i64 ((roomR J (ps.length + 2)).1 : Int)] 3) = w6 := ⟨_, rfl⟩
  rw [hw6] at HAB HRL5 HJ5 HD5 HP5 HJB5 HLB5 HB5
  clear hw4
  have HROOM : Hid ((roomR J (ps.length + 2)).2 = true ∨ (Fit J N ∧ 0 < J.count)) := HOK.out.room
  have hszw6 : B ≤ w6.heap.size := Nat.le_trans hB HB5.out.size
  have HJP : Hid ((cmtJ J (ps.length + 2)).pos < 65536) := by
    show _ < _
    unfold cmtJ
    cases (roomR J (ps.length + 2)).2 <;> exact hpos
  clear h1 hbig hnx
  go_upto_if 37 with fail
  clear hw6
  go_cut [9, 10] from 29 to 49 (fun s9 s10 wx => CmtRel w6 B T j g c W.heap.size w3.heap.size w5.heap.size gl k3 J N (ps.length + 2) wx)
  case first =>
    cases hro : (roomR J (ps.length + 2)).2 with
    | true =>
      have eJ : cmtJ J (ps.length + 2) = J := by unfold cmtJ; rw [hro]; rfl
      have eN : cmtN J N (ps.length + 2) = N := by unfold cmtN; rw [hro]; rfl
      have eA : cmtA J (ps.length + 2) = (roomR J (ps.length + 2)).1 := by unfold cmtA; rw [eJ]
      have HREL : Hid (CmtRel w6 B T j g c W.heap.size w3.heap.size w5.heap.size gl k3 J N (ps.length + 2) w6) := by
        show CmtRel _ _ _ _ _ _ _ _ _ _ _ _ _ _ _
        unfold CmtRel
        rw [eJ, eN, eA]
        exact ⟨HJ5.out, HD5.out.more (by omega), HJB5.out, HLB5.out, HAB.out, JKeep.refl _ _, PKeep.refl _, Nat.le_refl _⟩
      clear eJ eN eA
      go_wp2
      go_meet
      exact HREL.out
    | false =>
      have eJ : cmtJ J (ps.length + 2) = setJ J := by unfold cmtJ; rw [hro]; rfl
      have eN : cmtN J N (ps.length + 2) = settleN J N := by unfold cmtN; rw [hro]; rfl
      have eA : cmtA J (ps.length + 2) = (roomR (setJ J) (ps.length + 2)).1 := by unfold cmtA; rw [eJ]
      obtain ⟨hft, hcn⟩ : Fit J N ∧ 0 < J.count := HROOM.out.resolve_left (by rw [hro]; decide)
      have HST := hide (settle_any' HJ5.out HD5.out hszw6 (by omega) hft hcn)
      have r0 : w6.cell? ⟨W.heap.size, 0, none⟩ = some (.pointer (some ⟨j, 0, none⟩)) := HJB5.out.cell 0
      go_wp2_with fail
      refine (unhide HST).mono ?_
      rintro e w7 ⟨rfl, hj7, hd7, hk7, hp7⟩
      have HJ7 := hide hj7
      have HD7 := hide hd7
      have HK7 := hide hk7
      have HP7 := hide hp7
      have HJB7 := hide (hk7.2 _ _ _ HJB5.out (by decide) (by decide) (by decide) (by decide) (by decide))
      have HLB7 := hide (hk7.2 _ _ _ HLB5.out (by decide) (by decide) (by decide) (by decide) (by decide))
      have HAB7 := hide (hk7.2 _ _ _ HAB.out (by decide) (by decide) (by decide) (by decide) (by decide))
      have s0 : w7.cell? ⟨W.heap.size, 0, none⟩ = some (.pointer (some ⟨j, 0, none⟩)) := HJB7.out.cell 0
      have s1 : w7.cell? ⟨w3.heap.size, 0, none⟩ = some (.slice (some ⟨gl, 0, none⟩) (ps.length + 2) k3) := HLB7.out.cell 0
      have HRO := hide (room_any hj7 (ps.length + 2) (by omega) (by show J.pos < _; exact hpos) hz)
      clear hj7 hd7 hk7 hp7 HST r0
      go_wp2_with fail
      refine (unhide HRO).mono ?_
      rintro e w8 ⟨rfl, hb8⟩
      have HB8 := hide hb8
      have HAB8 := hide (HAB7.out.below hb8 HAB7.out.lt)
      have HLB8 := hide (HLB7.out.below hb8 HLB7.out.lt)
      have HJB8 := hide (HJB7.out.below hb8 HJB7.out.lt)
      have HJ8 := hide (HJ7.out.lift hb8)
      have HD8 := hide (HD7.out.lift hb8)
      have a0 : w8.cell? ⟨w5.heap.size, 0, none⟩ = some (.int .i64 ((roomR J (ps.length + 2)).1 : Int)) := HAB8.out.cell 0
      have a1 := HAB8.out.frozen 0
      clear hb8 HRO s0 s1
      go_wp2
      go_meet
      obtain ⟨hat1, hat2⟩ := room_no hro
      have hsame : w8.setCell ⟨w5.heap.size, 0, none⟩ (.int .i64 ((roomR (setJ J) (ps.length + 2)).1 : Int)) = w8 := by
        rw [hat2]
        have := HAB8.out
        rw [hat1] at this
        exact setCell_same this rfl
      rw [hsame]
      unfold CmtRel
      rw [eJ, eN, eA]
      exact ⟨HJ8.out.top (Nat.zero_le _), HD8.out, HJB8.out, HLB8.out, by rw [hat2, ← hat1]; exact HAB8.out, HK7.out.trans (JKeep.of_below HB8.out (Nat.le_trans hszw6 HK7.out.1.size)), HP7.out.trans (PKeep.of_below HB8.out), Nat.le_trans HK7.out.1.size HB8.out.size⟩
  case rest =>
    obtain ⟨hj, hd, hjb, hlb, hab, hkp, hpk, hsz⟩ := hcut
    have HRLc := hide (HRL5.out.jkeep hkp)
    have HPc := hide (HP5.out.keep2 hpk hkp)
    have HKc : Hid (JKeep B W wc) := (JKeep.of_below HB5.out hB).trans hkp
    have hszc : B ≤ wc.heap.size := Nat.le_trans hszw6 hsz
    have HJc := hide hj
    have HDc := hide hd
    have HJBc := hide hjb
    have HLBc := hide hlb
    have HABc := hide hab
    clear hj hd hjb hlb hab hkp hpk hsz HRL5 HJ5 HD5 HP5 HJB5 HLB5 HAB HB5 HROOM HPS
    obtain ⟨J1, eJ⟩ : ∃ J1, cmtJ J (ps.length + 2) = J1 := ⟨_, rfl⟩
    obtain ⟨N1, eN⟩ : ∃ N1, cmtN J N (ps.length + 2) = N1 := ⟨_, rfl⟩
    obtain ⟨a, eA⟩ : ∃ a, cmtA J (ps.length + 2) = a := ⟨_, rfl⟩
    have HEQ : Hid (cmtJ J (ps.length + 2) = J1 ∧ cmtN J N (ps.length + 2) = N1 ∧ cmtA J (ps.length + 2) = a) := ⟨eJ, eN, eA⟩
    have HTU : Hid (J1.count = 0 ∨ J1.pos ≤ a) := (by have := HOK.out.turn; rw [eJ, eA] at this; exact this : J1.count = 0 ∨ J1.pos ≤ a)
    have HFT : Hid (a + (ps.length + 2) ≤ N1.length) := (by have := HOK.out.fits; rw [eA] at this; rw [← eN, cmtN_len]; exact this : a + (ps.length + 2) ≤ N1.length)
    have hJn : J1.next = J.next := by rw [← eJ]; exact cmtJ_next _ _
    have hJc : J1.count < 65535 := by rw [← eJ]; exact HOK.out.count
    have hJnx : J.next < 65535 := HOK.out.next
    rw [eJ] at HJc HJP
    rw [eN] at HDc
    rw [eA] at HABc
    clear eJ eN eA
    generalize W.heap.size = jb at *
    have s0 : wc.cell? ⟨jb, 0, none⟩ = some (.pointer (some ⟨j, 0, none⟩)) := HJBc.out.cell 0
    have s1 : wc.cell? ⟨w3.heap.size, 0, none⟩ = some (.slice (some ⟨gl, 0, none⟩) (ps.length + 2) k3) := HLBc.out.cell 0
    have s2 : wc.cell? ⟨j, 0, none⟩ = some (.pointer (some ⟨g, 0, none⟩)) := by
      obtain ⟨_, _, _, hb6⟩ := HJc.out.cells
      exact hb6.cell 0
    have hsbv : (ps.length : Int) + 2 - 1 = (ps.length : Int) + 1 := by omega
    have hal : Below wc.heap.size wc (wc.alloc (.cells #[.int .i64 ((ps.length : Int) + 1)] 3)) := (Below.refl _ _).alloc (Nat.le_refl _) _
    have HSB : Hid (Blk (wc.alloc (.cells #[.int .i64 ((ps.length : Int) + 1)] 3)) wc.heap.size 3 #[.int .i64 ((ps.length + 1 : Nat) : Int)]) := by
      exact Blk.new _ _ _
    have HAL := hide hal
    have q0 : (wc.alloc (.cells #[.int .i64 ((ps.length : Int) + 1)] 3)).cell? ⟨jb, 0, none⟩ = some (.pointer (some ⟨j, 0, none⟩)) := (HJBc.out.below hal HJBc.out.lt).cell 0
    have q2 : (wc.alloc (.cells #[.int .i64 ((ps.length : Int) + 1)] 3)).cell? ⟨j, 0, none⟩ = some (.pointer (some ⟨g, 0, none⟩)) := by
      obtain ⟨_, _, _, hb6⟩ := (HJc.out.lift hal).cells
      exact hb6.cell 0
    clear hal
    obtain ⟨w7, hw7⟩ : ∃ w7, wc.alloc (.cells #[.int .i64 ((ps.length : Int) + 1)] 3) = w7 := ⟨_, rfl⟩
    rw [hw7] at HSB HAL q0 q2
    have HFB : Hid (Blk (w7.alloc (.cells #[cf1V jb w5.heap.size w3.heap.size wc.heap.size, flushV g, cf2V jb w5.heap.size w3.heap.size wc.heap.size] 59)) w7.heap.size 59 [cf1V jb w5.heap.size w3.heap.size wc.heap.size, flushV g, cf2V jb w5.heap.size w3.heap.size wc.heap.size].toArray) := Blk.new _ _ _
    have HA8 : Hid (Below w7.heap.size w7 (w7.alloc (.cells #[cf1V jb w5.heap.size w3.heap.size wc.heap.size, flushV g, cf2V jb w5.heap.size w3.heap.size wc.heap.size] 59))) := (Below.refl _ _).alloc (Nat.le_refl _) _
    go_wp2_with fail
    clear s0 s1 s2 q0 q2 hw7 hsbv
    obtain ⟨w8, hw8⟩ : ∃ w8, w7.alloc (.cells #[cf1V jb w5.heap.size w3.heap.size wc.heap.size, flushV g, cf2V jb w5.heap.size w3.heap.size wc.heap.size] 59) = w8 := ⟨_, rfl⟩
    rw [hw8] at HFB HA8 ⊢
    clear hw8
    have HC8 : Hid (Below wc.heap.size wc w8) := HAL.out.trans (HA8.out.mono HAL.out.size)
    have hB8 : B ≤ w8.heap.size := Nat.le_trans hszc HC8.out.size
    have HJ8 := hide (HJc.out.lift HC8.out)
    have HD8 := hide (HDc.out.lift HC8.out)
    have HP8 := hide (HPc.out.below HC8.out)
    have HRL8 := hide (HRLc.out.below HC8.out)
    have HJB8 := hide (HJBc.out.below HC8.out HJBc.out.lt)
    have HLB8 := hide (HLBc.out.below HC8.out HLBc.out.lt)
    have HAB8 := hide (HABc.out.below HC8.out HABc.out.lt)
    have HSB8 := hide (HSB.out.below HA8.out HSB.out.lt)
    have HK8 : Hid (JKeep B W w8) := HKc.out.trans (JKeep.of_below HC8.out hszc)
    clear HJc HDc HPc HRLc HJBc HLBc HABc HSB HKc HAL HA8
    have hrl : (recL J.next ps).length = ps.length + 1 + 1 := recL_len _ _
    have htl : ((recL J.next ps).take (ps.length + 1) ++ [zero64]).length = ps.length + 2 := by rw [List.length_append, List.length_take, hrl]; simp
    have h64 := recL_64 J.next h10 (fun p hp => (HOK.out.puts p hp).1)
    have HFI := hide (first_any _ _ 3 3 rfl (by simp) (CmtI w8 B g (c + J.owed.length + 4) a N1 ((recL J.next ps).take (ps.length + 1) ++ [zero64]) (footL J.next)) w8 ⟨DKeep.refl _ _, HD8.out⟩ (fun k w hi => reads_keep HFB.out hi.keep (by decide) (by decide) (by decide) rfl) (fun k hk w hi => by
      have hkw := hi.keep
      have hszw : B ≤ w.heap.size := Nat.le_trans hB8 hkw.1.size
      obtain ⟨_, v8, hj8, _⟩ := HJ8.out.dkeep hkw
      have hjb := hkw.2 _ _ _ HJB8.out (by decide) (by decide) (by decide)
      have hlb := hkw.2 _ _ _ HLB8.out (by decide) (by decide) (by decide)
      have hab := hkw.2 _ _ _ HAB8.out (by decide) (by decide) (by decide)
      have hsb := hkw.2 _ _ _ HSB8.out (by decide) (by decide) (by decide)
      have hrw := HRL8.out.keep hkw
      have hol := HOK.out.owed
      have hft := HFT.out
      have hN1 : N1.length ≤ 65536 := HD8.out.all.2
      match k, hk, hi with
      | 0, _, hi =>
        refine Fn0.weak ⟨_, _, _, rfl, run_cmt1 _ _, cmt1_any (k := k3) hj8 hi.2 hszw (by omega) hjb hab hlb hsb hrl (by omega) hrw (by omega) h64 (by rw [hrl]; omega) (by rw [hrl]; omega)⟩ ?_
        rintro e w' ⟨rfl, hd, hk'⟩
        refine ⟨rfl, hkw.trans hk', ?_⟩
        rw [hrl, Nat.zero_add] at hd
        rw [htl]
        exact hd
      | 1, _, hi =>
        refine (hi.2.fn_flush (by omega)).weak ?_
        rintro e w' ⟨rfl, hd, hk'⟩
        exact ⟨rfl, hkw.trans hk', hd⟩
      | 2, _, hi =>
        refine Fn0.weak ⟨_, _, _, rfl, run_cmt2 _ _, cmt2_any (k := k3) hj8 hi.2 hszw (by omega) hjb hab hlb hsb hrl (recL_last _ _) (footL_len _) hrw (by rw [hrl, wsec_len]; omega) (by rw [wsec_len]; exact hN1) (by omega)⟩ ?_
        rintro e w' ⟨rfl, hd, hk'⟩
        refine ⟨rfl, hkw.trans hk', ?_⟩
        rw [htl]
        exact hd))
    refine (unhide HFI).mono ?_
    rintro e w9 ⟨rfl, hi9⟩
    have HI9 : Hid (CmtI w8 B g (c + J.owed.length + 4) a N1 ((recL J.next ps).take (ps.length + 1) ++ [zero64]) (footL J.next) 3 w9) := hi9
    clear hi9 HFI
    have hkw9 := HI9.out.1
    obtain ⟨hBj, v9, hj9, ho9⟩ := HJ8.out.dkeep hkw9
    have HJW9 : Hid (JW w9 w9 B g (c + J.owed.length + 7) (wsec (wsec N1 a ((recL J.next ps).take (ps.length + 1) ++ [zero64])) (a + (ps.length + 1)) [footL J.next]) 1 j (jrnC g J1 v9)) := by
      have hd := HI9.out.2
      have e1 : ((recL J.next ps).take (ps.length + 1) ++ [zero64]).length - 1 = ps.length + 1 := by rw [htl]; rfl
      rw [e1] at hd
      exact ⟨hBj, hd, hj9, JKeep.refl _ _, PKeep.refl _⟩
    have HOW9 := hide ho9
    have HP9 := hide (HP8.out.dkeep hkw9)
    have HJB9 := hide (hkw9.2 _ _ _ HJB8.out (by decide) (by decide) (by decide))
    have HLB9 := hide (hkw9.2 _ _ _ HLB8.out (by decide) (by decide) (by decide))
    have HAB9 := hide (hkw9.2 _ _ _ HAB8.out (by decide) (by decide) (by decide))
    have HK9 : Hid (JKeep B W w9) := HK8.out.trans (JKeep.of_dkeep hkw9)
    have hB9 : B ≤ w9.heap.size := Nat.le_trans hB8 hkw9.1.size
    have q0 : w9.cell? ⟨jb, 0, none⟩ = some (.pointer (some ⟨j, 0, none⟩)) := HJB9.out.cell 0
    have q11 : w9.cell? ⟨j, 11, none⟩ = some (.int .i64 (J1.count : Int)) := hj9.cell 11
    clear hkw9 hj9 ho9 HI9 HJ8 HP8 HRL8 HJB8 HLB8 HAB8 HSB8 HK8 HD8 HC8 HFB h64 htl hrl hB8 hszc hszw6
    have HABc : Hid (w9.cell? ⟨w5.heap.size, 0, none⟩ = some (.int .i64 (a : Int))) := HAB9.out.cell 0
    by_cases hc0 : J1.count = 0
    · have t1 : ((J1.count : Int) == 0) = true := by rw [hc0]; rfl
      have hbs : (bif J1.count == 0 then a else J1.base) = a := by rw [hc0]; rfl
      have HJ9 := hide HJW9.out.2.2.1
      have y8 : w9.cell? ⟨j, 8, none⟩ = some (.int .i64 (J1.base : Int)) := HJ9.out.cell 8
      have z8 := HJ9.out.frozen 8
      have q1 : w9.cell? ⟨w5.heap.size, 0, none⟩ = some (.int .i64 (a : Int)) := HABc.out
      go_upto_region 21 with fail
      clear q0 q11 q1 y8 z8 HJ9
      have HJWx : Hid (JW w9 (w9.setCell ⟨j, 8, none⟩ (.int .i64 (a : Int))) B g (c + J.owed.length + 7) (wsec (wsec N1 a ((recL J.next ps).take (ps.length + 1) ++ [zero64])) (a + (ps.length + 1)) [footL J.next]) 1 j (jrnC g { J1 with base := bif J1.count == 0 then a else J1.base } v9)) := by
        show JW _ _ _ _ _ _ _ _ _
        rw [hbs]
        exact HJW9.out.set 8 (.int .i64 (a : Int))
      generalize w9.setCell ⟨j, 8, none⟩ (.int .i64 (a : Int)) = wx at *
      clear t1 hc0
      have hKx := HJWx.out.2.2.2.1
      have HKx : Hid (JKeep B W wx) := HK9.out.trans hKx
      have hBx : B ≤ wx.heap.size := Nat.le_trans hB9 hKx.1.size
      have HPx := hide (HP9.out.keep2 HJWx.out.2.2.2.2 hKx)
      have HOWx := hide (HOW9.out.keep2 HJWx.out.2.2.2.2 hKx)
      have HJBx := hide (hKx.2 _ _ _ HJB9.out (by decide) (by decide) (by decide) (by decide) (by decide))
      have q0 : wx.cell? ⟨jb, 0, none⟩ = some (.pointer (some ⟨j, 0, none⟩)) := HJBx.out.cell 0
      have q1 : wx.cell? ⟨w5.heap.size, 0, none⟩ = some (.int .i64 (a : Int)) := (hKx.2 _ _ _ HAB9.out (by decide) (by decide) (by decide) (by decide) (by decide)).cell 0
      have q2 : wx.cell? ⟨w3.heap.size, 0, none⟩ = some (.slice (some ⟨gl, 0, none⟩) (ps.length + 2) k3) := (hKx.2 _ _ _ HLB9.out (by decide) (by decide) (by decide) (by decide) (by decide)).cell 0
      have y7 : wx.cell? ⟨j, 7, none⟩ = some (.int .i64 (J1.pos : Int)) := HJWx.out.2.2.1.cell 7
      have z7 := HJWx.out.2.2.1.frozen 7
      have hal : a + (ps.length + 2) ≤ 65536 := by
        have h1 := HFT.out
        have h2 := HJWx.out.2.1.all.2
        rw [wsec_len, wsec_len] at h2
        omega
      clear hKx HP9 HOW9 HJB9 HLB9 HAB9 HJW9 HK9 HABc
      go_upto_region 22 with fail
      have HJWy : Hid (JW w9 (wx.setCell ⟨j, 7, none⟩ (.int .i64 ((a : Int) + ((ps.length : Int) + 2)))) B g (c + J.owed.length + 7) (wsec (wsec N1 a ((recL J.next ps).take (ps.length + 1) ++ [zero64])) (a + (ps.length + 1)) [footL J.next]) 1 j (jrnC g { J1 with base := bif J1.count == 0 then a else J1.base, pos := a + (ps.length + 2) } v9)) := HJWx.out.set 7 (.int .i64 ((a : Int) + ((ps.length : Int) + 2)))
      have HKy : Hid (JKeep B W (wx.setCell ⟨j, 7, none⟩ (.int .i64 ((a : Int) + ((ps.length : Int) + 2))))) := HKx.out.trans (JKeep.set hBj HJWx.out.2.2.1 7 _)
      have hky := JKeep.set hBj HJWx.out.2.2.1 7 (.int .i64 ((a : Int) + ((ps.length : Int) + 2)))
      have hpy := PKeep.set HJWx.out.2.2.1 (by decide) 7 (.int .i64 ((a : Int) + ((ps.length : Int) + 2)))
      have HPy := hide (HPx.out.keep2 hpy hky)
      have HOWy := hide (HOWx.out.keep2 hpy hky)
      have HJBy := hide (hky.2 _ _ _ HJBx.out (by decide) (by decide) (by decide) (by decide) (by decide))
      have hBy : B ≤ (wx.setCell ⟨j, 7, none⟩ (.int .i64 ((a : Int) + ((ps.length : Int) + 2)))).heap.size := Nat.le_trans hBx hky.1.size
      clear q0 q1 q2 y7 z7 hky hpy HKx HPx HOWx HJBx hBx HJWx
      generalize wx.setCell ⟨j, 7, none⟩ (.int .i64 ((a : Int) + ((ps.length : Int) + 2))) = wy at *
      obtain ⟨J4, eJ4⟩ : ∃ J4 : JS, { J1 with base := bif J1.count == 0 then a else J1.base, pos := a + (ps.length + 2) } = J4 := ⟨_, rfl⟩
      obtain ⟨N4, eN4⟩ : ∃ N4, (wsec (wsec N1 a ((recL J.next ps).take (ps.length + 1) ++ [zero64])) (a + (ps.length + 1)) [footL J.next]) = N4 := ⟨_, rfl⟩
      rw [eJ4, eN4] at HJWy
      have HE4 : Hid (({ J1 with base := bif J1.count == 0 then a else J1.base, pos := a + (ps.length + 2) } : JS) = J4 ∧ (wsec (wsec N1 a ((recL J.next ps).take (ps.length + 1) ++ [zero64])) (a + (ps.length + 1)) [footL J.next]) = N4) := ⟨eJ4, eN4⟩
      have hJ4o : J4.owed = J1.owed := by rw [← eJ4]
      have hol4 : J4.owed.length ≤ 1000 := by
        rw [hJ4o]
        have h1 := HEQ.out.1
        have h2 := HOK.out.owed
        rw [← h1]
        unfold cmtJ
        cases (roomR J (ps.length + 2)).2
        · exact Nat.zero_le _
        · exact h2
      clear eJ4 eN4
      have HREL : Hid (CmtLoop W wy B g (c + J.owed.length + 7) N4 j J4 A ps 0 wy) := by
        obtain ⟨us, ho, hs, ht⟩ := HOWy.out
        rw [← hJ4o] at ho hs
        refine ⟨v9, us, ⟨hBj, HJWy.out.2.1, HJWy.out.2.2.1, JKeep.refl _ _⟩, by rw [List.take_zero, List.append_nil]; exact ho, by rw [List.take_zero, List.append_nil]; exact hs, fun ad ha e => ?_, HPy.out⟩
        have := ht _ e
        have := HGP.out ad ha
        omega
      clear HOWy HPy HJWy
      go_wp2_with fail
      go_loopw [97] (fun i wr => ∃ k : Nat, k ≤ ps.length ∧ i = .int .i64 k ∧ CmtLoop W wy B g (c + J.owed.length + 7) N4 j J4 A ps k wr) (fun i _ => ps.length - (intOf i).toNat)
      case atStart => exact ⟨0, Nat.zero_le _, rfl, HREL.out⟩
      case round =>
        clear HREL
        obtain ⟨kk, hkk, rfl, vo, us, hjv, hown, hsv, hne, hpa⟩ := hrel
        have HJV := hide hjv
        have HSV := hide hsv
        have HNE := hide hne
        have HPA := hide hpa
        have HJBr := hide (hjv.2.2.2.2 _ _ _ HJBy.out (by decide) (by decide) (by decide) (by decide) (by decide))
        have hBr : B ≤ wr.heap.size := Nat.le_trans hBy hjv.2.2.2.1.size
        have hll : (J4.owed ++ ps.take kk).length = J4.owed.length + kk := by rw [List.length_append, List.length_take]; omega
        have husl : us.length = (J4.owed ++ ps.take kk).length := by rw [hsv.1, List.length_map]
        rw [hll] at hown
        have HOWN := hide hown
        obtain ⟨Ao, co, evo⟩ := own_form hown
        subst evo
        obtain ⟨no, hno⟩ : ∃ no, J4.owed.length + kk = no := ⟨_, rfl⟩
        rw [hno] at HOWN HJV HNE hll
        have hnol : no ≤ 1010 := by omega
        clear hjv hown hsv hne hpa
        by_cases hlt : kk < ps.length
        · obtain ⟨gr, cur, eAA, hb0, hc0⟩ := HPA.out (by omega)
          obtain ⟨u, c0, c1, hsu⟩ := hc0 kk ps[kk] (List.getElem?_eq_getElem hlt)
          obtain ⟨gb, cb, cub, rfl, hcb, hbb0, htk, _⟩ := hsu
          have HPO := hide (HOK.out.puts _ (List.getElem_mem hlt)).1
          have HT := hide (show J4.owed ++ ps.take (kk + 1) = (J4.owed ++ ps.take kk) ++ [ps[kk]] by rw [List.append_assoc, List.take_succ_eq_append_getElem hlt])
          generalize ps[kk] = p at *
          have hp64 := HPO.out.2
          rw [hp64] at c1 htk hcb
          have r0 : wr.cell? ⟨gr, kk * 2, none⟩ = some (.int .i64 (p.1 : Int)) := by rw [hb0.cell, Nat.mul_comm]; exact c0
          have r1 : wr.cell? ⟨gr, kk * 2 + 1, none⟩ = some (.slice (some ⟨gb, 0, none⟩) 64 cb) := by rw [hb0.cell, Nat.mul_comm]; exact c1
          have hzp : ∀ W', (zeroValue 37).run Try.prog W' = .ok (.agg #[.int .i64 0, .slice none 0 0]) W' := fun W' => zero_put W'
          have HBP : Hid (Blk (wr.alloc (.cells (putC p (.slice (some ⟨gb, 0, none⟩) 64 cb)) 37)) wr.heap.size 37 (putC p (.slice (some ⟨gb, 0, none⟩) 64 cb))) := Blk.new _ _ _
          have HLO : Hid (Below wr.heap.size wr (wr.alloc (.cells (putC p (.slice (some ⟨gb, 0, none⟩) 64 cb)) 37))) := (Below.refl _ _).alloc (Nat.le_refl _) _
          have HBB := hide (show Blk wr gb 5 cub ∧ cub.toList.take 64 = byts p.2 from ⟨hbb0, htk⟩)
          have i1 : (0 : Int) ≤ (kk : Int) := by omega
          have i2 : (kk : Int) < (ps.length : Int) := by omega
          subst eAA
          clear c0 c1 hb0 hc0 hbb0 htk
          obtain ⟨wp, hw5⟩ : ∃ wp, wr.alloc (.cells (putC p (.slice (some ⟨gb, 0, none⟩) 64 cb)) 37) = wp := ⟨_, rfl⟩
          rw [hw5] at HBP HLO
          unfold putC at hw5
          go_wp2_with fail
          clear hw5 hzp r0 r1
          have HSX : Hid (∀ x, Below wp.heap.size wp x → x.cell? ⟨jb, 0, none⟩ = some (.pointer (some ⟨j, 0, none⟩)) ∧ x.cell? ⟨j, 10, none⟩ = some (.slice Ao no co) ∧ x.cell? ⟨wr.heap.size, 0, none⟩ = some (.int .i64 (p.1 : Int)) ∧ x.cell? ⟨wr.heap.size, 1, none⟩ = some (.slice (some ⟨gb, 0, none⟩) 64 cb)) := fun x hx => by
            have hb := HBP.out.below hx HBP.out.lt
            have hj5 := HJV.out.2.2.1.below HLO.out HJV.out.2.2.1.lt
            have hj := hj5.below hx hj5.lt
            have hq5 := HJBr.out.below HLO.out HJBr.out.lt
            have hq := hq5.below hx hq5.lt
            exact ⟨hq.cell 0, hj.cell 10, hb.cell 0, hb.cell 1⟩
          refine region_U (fun x => x.cell? ⟨jb, 0, none⟩ = some (.pointer (some ⟨j, 0, none⟩)) ∧ x.cell? ⟨j, 10, none⟩ = some (.slice Ao no co) ∧ x.cell? ⟨wr.heap.size, 0, none⟩ = some (.int .i64 (p.1 : Int)) ∧ x.cell? ⟨wr.heap.size, 1, none⟩ = some (.slice (some ⟨gb, 0, none⟩) 64 cb)) 15 (by kernel_rfl) ?_
          intro Y hY
          have HBY : Hid (Below wp.heap.size wp Y) := by rw [hY]; exact (Below.refl _ _).drew
          have HSY := hide (HSX.out Y HBY.out)
          clear hY
          refine takeV 16 0 (.pointer (some ⟨j, 0, none⟩)) rfl (by kernel_rfl) (fun _ _ _ h => h) (by rfl) (fun x hS => by
            obtain ⟨s0, s1, s2, s3⟩ := hS
            go_simp) HSY.out ?_
          simp only [Act.put, List.getElem_toArray, List.getElem_cons_succ, List.getElem_cons_zero, List.setIfInBounds_toArray, List.set_cons_zero, List.set_cons_succ]
          refine takeV 16 1 (.pointer (some ⟨j, 0, none⟩)) rfl (by kernel_rfl) (fun _ _ _ h => h) (by rfl) (fun x hS => by
            obtain ⟨s0, s1, s2, s3⟩ := hS
            go_simp) HSY.out ?_
          simp only [Act.put, List.getElem_toArray, List.getElem_cons_succ, List.getElem_cons_zero, List.setIfInBounds_toArray, List.set_cons_zero, List.set_cons_succ]
          refine takeV 16 2 (.pointer (some ⟨j, 0, none⟩)) rfl (by kernel_rfl) (fun _ _ _ h => h) (by rfl) (fun x hS => by
            obtain ⟨s0, s1, s2, s3⟩ := hS
            go_simp) HSY.out ?_
          simp only [Act.put, List.getElem_toArray, List.getElem_cons_succ, List.getElem_cons_zero, List.setIfInBounds_toArray, List.set_cons_zero, List.set_cons_succ]
          refine takeV 16 3 (.pointer (some ⟨j, 10, none⟩)) rfl (by kernel_rfl) (fun _ _ _ h => h) (by rfl) (fun x hS => by
            obtain ⟨s0, s1, s2, s3⟩ := hS
            go_simp) HSY.out ?_
          simp only [Act.put, List.getElem_toArray, List.getElem_cons_succ, List.getElem_cons_zero, List.setIfInBounds_toArray, List.set_cons_zero, List.set_cons_succ]
          refine takeV 16 4 (.slice Ao no co) rfl (by kernel_rfl) (fun _ _ _ h => h) (by rfl) (fun x hS => by
            obtain ⟨s0, s1, s2, s3⟩ := hS
            go_simp) HSY.out ?_
          simp only [Act.put, List.getElem_toArray, List.getElem_cons_succ, List.getElem_cons_zero, List.setIfInBounds_toArray, List.set_cons_zero, List.set_cons_succ]
          refine takeV 16 5 (.pointer (some ⟨wr.heap.size, 0, none⟩)) rfl (by kernel_rfl) (fun _ _ _ h => h) (by rfl) (fun x hS => by
            obtain ⟨s0, s1, s2, s3⟩ := hS
            go_simp) HSY.out ?_
          simp only [Act.put, List.getElem_toArray, List.getElem_cons_succ, List.getElem_cons_zero, List.setIfInBounds_toArray, List.set_cons_zero, List.set_cons_succ]
          refine takeV 16 6 (.int .i64 (p.1 : Int)) rfl (by kernel_rfl) (fun _ _ _ h => h) (by rfl) (fun x hS => by
            obtain ⟨s0, s1, s2, s3⟩ := hS
            go_simp) HSY.out ?_
          simp only [Act.put, List.getElem_toArray, List.getElem_cons_succ, List.getElem_cons_zero, List.setIfInBounds_toArray, List.set_cons_zero, List.set_cons_succ]
          refine takeV 16 7 (.pointer (some ⟨wr.heap.size, 1, none⟩)) rfl (by kernel_rfl) (fun _ _ _ h => h) (by rfl) (fun x hS => by
            obtain ⟨s0, s1, s2, s3⟩ := hS
            go_simp) HSY.out ?_
          simp only [Act.put, List.getElem_toArray, List.getElem_cons_succ, List.getElem_cons_zero, List.setIfInBounds_toArray, List.set_cons_zero, List.set_cons_succ]
          refine takeV 16 8 (.slice (some ⟨gb, 0, none⟩) 64 cb) rfl (by kernel_rfl) (fun _ _ _ h => h) (by rfl) (fun x hS => by
            obtain ⟨s0, s1, s2, s3⟩ := hS
            go_simp) HSY.out ?_
          simp only [Act.put, List.getElem_toArray, List.getElem_cons_succ, List.getElem_cons_zero, List.setIfInBounds_toArray, List.set_cons_zero, List.set_cons_succ]
          have HPY : Hid (Below wr.heap.size wr Y) := HLO.out.trans (HBY.out.mono HLO.out.size)
          have HCL := hide (clone_some p.2 ⟨gb, 0, none⟩ 64 cb Y.heap.size Y hp64.symm (by omega) (Nat.le_refl _) (bytes_blk (HBB.out.1.below HPY.out HBB.out.1.lt) (by rw [hp64]; exact HBB.out.2)))
          refine oneU 9 rfl (by kernel_rfl) (by rfl) ?_
          go_wp2_with fail
          refine (unhide HCL).mono ?_
          rintro e y1 ⟨v1, rfl, ho1, hb1⟩
          have HSV1 := hide (SecV.of_own ho1 (by omega))
          rw [hp64] at ho1
          obtain ⟨g1, c1, e1, _, _⟩ := ho1.form (by omega)
          subst e1
          have HB1 : Hid (Below wp.heap.size wp y1) := HBY.out.trans (hb1.mono HBY.out.size)
          have HS1 := hide (HSX.out y1 HB1.out)
          clear ho1 hb1 HCL
          refine ⟨(by first | exact fun _ => HS1.out | exact HS1.out), ?_⟩
          try simp only [Act.put, List.getElem_toArray, List.getElem_cons_succ, List.getElem_cons_zero, List.setIfInBounds_toArray, List.set_cons_zero, List.set_cons_succ]
          refine oneU 10 rfl (by kernel_rfl) (by rfl) ?_
          have hbld := build_put y1 (p.1 : Int) g1 64 c1
          go_wp2_with fail
          clear hbld
          refine ⟨(by first | exact fun _ => HS1.out | exact HS1.out), ?_⟩
          try simp only [Act.put, List.getElem_toArray, List.getElem_cons_succ, List.getElem_cons_zero, List.setIfInBounds_toArray, List.set_cons_zero, List.set_cons_succ]
          refine oneU 11 rfl (by kernel_rfl) (by rfl) ?_
          have HB2 : Hid (Below wp.heap.size wp (y1.alloc (.cells #[.int .i64 (p.1 : Int), .slice (some ⟨g1, 0, none⟩) 64 c1] 37))) := HB1.out.alloc HB1.out.size _
          have HA2 : Hid (Below y1.heap.size y1 (y1.alloc (.cells #[.int .i64 (p.1 : Int), .slice (some ⟨g1, 0, none⟩) 64 c1] 37))) := (Below.refl _ _).alloc (Nat.le_refl _) _
          have HS2 := hide (HSX.out _ HB2.out)
          have HR2 : Hid (Reads (y1.alloc (.cells #[.int .i64 (p.1 : Int), .slice (some ⟨g1, 0, none⟩) 64 c1] 37)) (y1.heap.size + 1) 2 (some ⟨y1.heap.size, 0, none⟩) 1 [.int .i64 (p.1 : Int), .slice (some ⟨g1, 0, none⟩) 64 c1]) := ⟨rfl, fun _ => ⟨_, rfl, by simp, fun j u hu => by
            rw [add_flat, cell_new, ← hu]
            simp⟩⟩
          have HW2 : Hid (Below wr.heap.size wr (y1.alloc (.cells #[.int .i64 (p.1 : Int), .slice (some ⟨g1, 0, none⟩) 64 c1] 37))) := HLO.out.trans (HB2.out.mono HLO.out.size)
          have HOW2 := hide (own_keep HOWN.out HW2.out)
          have HJV2 := hide (HJV.out.below HW2.out hBr)
          have HPA2 := hide (HPA.out.below HW2.out)
          have HSVA2 := hide ((HSV.out.below HW2.out).snoc ((HSV1.out.below HA2.out).weak (D' := fun _ => True) (fun _ _ _ => trivial)))
          have HBP2 := hide (HBP.out.below HB2.out HBP.out.lt)
          have HJB2 := hide (HJBr.out.below HW2.out HJBr.out.lt)
          have HLTr : Hid (∀ q, (Value.slice Ao no co).ownBlock = some q → q < wr.heap.size) := fun q e => (HOWN.out.lt q e).2
          go_wp2_with fail
          refine ⟨(by first | exact fun _ => HS2.out | exact HS2.out), ?_⟩
          try simp only [Act.put, List.getElem_toArray, List.getElem_cons_succ, List.getElem_cons_zero, List.setIfInBounds_toArray, List.set_cons_zero, List.set_cons_succ]
          clear HS1 HB1 HA2 HSV1 HS2 HPY HSY
          obtain ⟨y2, hy2⟩ : ∃ y2, y1.alloc (.cells #[.int .i64 (p.1 : Int), .slice (some ⟨g1, 0, none⟩) 64 c1] 37) = y2 := ⟨_, rfl⟩
          rw [hy2] at HB2 HR2 HW2 HOW2 HJV2 HPA2 HSVA2 HBP2 HJB2 ⊢
          clear hy2
          have hB2 : B ≤ y2.heap.size := Nat.le_trans hBr HW2.out.size
          obtain ⟨ip, hip, hp0, hp1, hp2⟩ := info_parts info_put
          refine oneU 12 rfl (by kernel_rfl) (by rfl) (wp_append_any _ (.tmp 105) (.tmp 112) 66 (by rfl) B 37 ip _ 2 32 Try.underlying66 hip hp0 hp1 hp2 rfl (by omega) (.slice Ao no co) no (putsC (J4.owed ++ ps.take kk) us) (by rfl) HOW2.out (y1.heap.size + 1) (some ⟨y1.heap.size, 0, none⟩) 1 1 [.int .i64 (p.1 : Int), .slice (some ⟨g1, 0, none⟩) 64 c1] (by rfl) HR2.out (by simp [Value.oneCell']) (by simp only [maxLen]; omega) (by omega) hB2 ?_)
          intro v6 y3 hown6 hg6 hat6
          obtain ⟨A6, c6, e6⟩ := own_form hown6
          subst e6
          have HJV3 := hide (HJV2.out.grown hB2 HOW2.out hg6)
          have HOW3 := hide hown6
          have HSV3 := hide (HSVA2.out.own HOW2.out (by decide) hg6)
          have HPA3 : Hid (PutsAt y3 (some ⟨gr, 0, none⟩) ps) := fun h0 => by
            obtain ⟨gr', cur', ee, hb, hcc⟩ := HPA2.out h0
            refine ⟨gr', cur', ee, (Fr.of_grown hg6).blk hb (fun e => ?_), fun i p hp => ?_⟩
            · injection ee with ee
              injection ee with ee
              subst ee
              exact HNE.out ⟨gr, 0, none⟩ rfl e
            · obtain ⟨u, k1, k2, k3⟩ := hcc i p hp
              exact ⟨u, k1, k2, k3.own HOW2.out (by decide) hg6⟩
          have HNE3 : Hid (∀ ad, (some ⟨gr, 0, none⟩ : Option Addr) = some ad → (Value.slice A6 (no + 1) c6).ownBlock ≠ some ad.block) := fun ad ha e => by
            rcases hat6 with h | h
            · rw [h] at e
              exact HNE.out ad ha e
            · rw [h] at e
              injection e with e
              injection ha with ha
              subst ha
              obtain ⟨gr', cur', ee, hb, _⟩ := HPA2.out (by omega)
              injection ee with ee
              injection ee with ee
              have := hb.lt
              have e : y2.heap.size = gr := e
              omega
          have HS3 : Hid (y3.cell? ⟨jb, 0, none⟩ = some (.pointer (some ⟨j, 0, none⟩)) ∧ y3.cell? ⟨j, 10, none⟩ = some (.slice Ao no co) ∧ y3.cell? ⟨wr.heap.size, 0, none⟩ = some (.int .i64 (p.1 : Int)) ∧ y3.cell? ⟨wr.heap.size, 1, none⟩ = some (.slice (some ⟨gb, 0, none⟩) 64 cb)) := by
            have hb := (Fr.of_grown hg6).blk HBP2.out (fun e => Nat.lt_irrefl _ (HLTr.out _ e))
            have hq := (Fr.of_grown hg6).blk HJB2.out (fun e => own_blk_ne HOW2.out HJB2.out (by decide) e)
            exact ⟨hq.cell 0, HJV3.out.2.2.1.cell 10, hb.cell 0, hb.cell 1⟩
          clear hown6 hg6 hat6 HR2
          refine ⟨(by first | exact fun _ => HS3.out | exact HS3.out), ?_⟩
          try simp only [Act.put, List.getElem_toArray, List.getElem_cons_succ, List.getElem_cons_zero, List.setIfInBounds_toArray, List.set_cons_zero, List.set_cons_succ]
          refine oneU 13 rfl (by kernel_rfl) (by rfl) ?_
          go_wp2_with fail
          refine ⟨(by first | exact fun _ => HS3.out | exact HS3.out), ?_⟩
          try simp only [Act.put, List.getElem_toArray, List.getElem_cons_succ, List.getElem_cons_zero, List.setIfInBounds_toArray, List.set_cons_zero, List.set_cons_succ]
          refine oneU 14 rfl (by kernel_rfl) (by rfl) ?_
          go_wp2_with fail
          refine ⟨(by first | exact fun _ => HS3.out | exact HS3.out), ?_⟩
          try simp only [Act.put, List.getElem_toArray, List.getElem_cons_succ, List.getElem_cons_zero, List.setIfInBounds_toArray, List.set_cons_zero, List.set_cons_succ]
          refine oneU 15 rfl (by kernel_rfl) (by rfl) ?_
          have y10 : y3.cell? ⟨j, 10, none⟩ = some (.slice Ao no co) := HS3.out.2.1
          have z10 := HJV3.out.2.2.1.frozen 10
          go_wp2_with fail
          refine doneU (by kernel_rfl) ?_ _
          clear y10 z10 HS3
          have HJ3 := hide HJV3.out.2.2.1
          have hrel : CmtLoop W wy B g (c + J.owed.length + 7) N4 j J4 (some ⟨gr, 0, none⟩) ps (kk + 1) (y3.setCell ⟨j, 10, none⟩ (.slice A6 (no + 1) c6)) := by
            refine ⟨.slice A6 (no + 1) c6, us ++ [.slice (some ⟨g1, 0, none⟩) 64 c1], HJV3.out.set 10 _, ?_, ?_, HNE3.out, HPA3.out.keep2 (PKeep.set HJ3.out (by decide) 10 _) (JKeep.set hBj HJ3.out 10 _)⟩
            · have ho := own_far HOW3.out HJ3.out (by decide) (.slice A6 (no + 1) c6) (i := 10)
              rw [HT.out, putsC_snoc _ _ _ _ husl, List.length_append, hll]
              exact ho
            · rw [HT.out, List.map_append]
              exact HSV3.out.far HJ3.out (by decide) _
          have HREL' := hide hrel
          clear hrel
          go_wp2
          go_roundw
          case rel => exact ⟨kk + 1, by omega, by go_num, HREL'.out⟩
          case measure => simp [intOf]; omega
        · obtain rfl : kk = ps.length := by omega
          rw [List.take_length] at HOWN HSV hll husl
          have n1 : J4.next < 65535 := by
            rw [← HE4.out.1]
            show J1.next < _
            rw [hJn]
            exact hJnx
          have n2 : J4.count < 65535 := by
            rw [← HE4.out.1]
            exact hJc
          have q0 : wr.cell? ⟨jb, 0, none⟩ = some (.pointer (some ⟨j, 0, none⟩)) := HJBr.out.cell 0
          have q6 : wr.cell? ⟨j, 6, none⟩ = some (.int .i64 (J4.next : Int)) := HJV.out.2.2.1.cell 6
          have q11 : wr.cell? ⟨j, 11, none⟩ = some (.int .i64 (J4.count : Int)) := HJV.out.2.2.1.cell 11
          have z6 := HJV.out.2.2.1.frozen 6
          have z11 := HJV.out.2.2.1.frozen 11
          have HJ6 := hide HJV.out.2.2.1
          have HJ11 := hide (HJV.out.set 6 (.int .i64 ((J4.next : Int) + 1))).2.2.1
          have HJZ := hide ((HJV.out.set 6 (.int .i64 ((J4.next : Int) + 1))).set 11 (.int .i64 ((J4.count : Int) + 1)))
          have HOZ := hide (own_far (own_far HOWN.out HJ6.out (by decide) (.int .i64 ((J4.next : Int) + 1)) (i := 6)) HJ11.out (by decide) (.int .i64 ((J4.count : Int) + 1)) (i := 11))
          have HSZ := hide ((HSV.out.far HJ6.out (by decide) (.int .i64 ((J4.next : Int) + 1)) (i := 6)).far HJ11.out (by decide) (.int .i64 ((J4.count : Int) + 1)) (i := 11))
          have HJBz := hide (((JKeep.set hBj HJ6.out 6 (.int .i64 ((J4.next : Int) + 1))).trans (JKeep.set hBj HJ11.out 11 (.int .i64 ((J4.count : Int) + 1)))).2 _ _ _ HJBr.out (by decide) (by decide) (by decide) (by decide) (by decide))
          clear HNE HPA
          go_upto_region 29 with fail
          clear q0 q6 q11 z6 z11 HJ6 HJ11 HJV HOWN HSV HJBr
          obtain ⟨wz, hwz⟩ : ∃ wz, (wr.setCell ⟨j, 6, none⟩ (.int .i64 ((J4.next : Int) + 1))).setCell ⟨j, 11, none⟩ (.int .i64 ((J4.count : Int) + 1)) = wz := ⟨_, rfl⟩
          rw [hwz] at HJZ HOZ HSZ HJBz ⊢
          clear hwz
          have q0 : wz.cell? ⟨jb, 0, none⟩ = some (.pointer (some ⟨j, 0, none⟩)) := HJBz.out.cell 0
          have q1 : wz.cell? ⟨j, 0, none⟩ = some (.pointer (some ⟨g, 0, none⟩)) := HJZ.out.2.2.1.cell 0
          have HFL := hide (HJZ.out.2.1.flush (by omega))
          go_wp2_with fail
          refine (unhide HFL).mono ?_
          rintro e wf ⟨rfl, hdf, hkf⟩
          have HDF := hide hdf
          have HKF := hide hkf
          clear hdf hkf HFL q0 q1
          go_wp2
          go_ret2
          refine ⟨rfl, ⟨hBj, .slice Ao no co, ?_, ⟨us, ?_, ?_, ?_⟩⟩, ?_, (HKy.out.trans HJZ.out.2.2.2).trans (JKeep.of_dkeep HKF.out)⟩
          · have hb := HKF.out.2 _ _ _ HJZ.out.2.2.1 (by decide) (by decide) (by decide)
            unfold doneJ
            rw [HEQ.out.1, HEQ.out.2.2, ← hJn]
            have e4 := HE4.out.1
            subst e4
            exact hb
          · have ho := own_dkeep HOZ.out HKF.out (by decide) (by decide) (by decide)
            unfold doneJ
            rw [HEQ.out.1, ← hJ4o]
            show wf.ownsRow _ _ _ _ (J4.owed ++ ps).length _
            rw [hll]
            exact ho
          · have hs := HSZ.out.dkeep HKF.out
            unfold doneJ
            rw [HEQ.out.1, ← hJ4o]
            exact hs
          · intro q e
            exact Nat.lt_of_lt_of_le (HOZ.out.lt q e).2 HKF.out.1.size
          · unfold doneN
            rw [HEQ.out.2.1, HEQ.out.2.2, HE4.out.2]
            exact HDF.out
    · have t1 : ((J1.count : Int) == 0) = false := beq_eq_false_iff_ne.2 (by omega)
      have hbs : (bif J1.count == 0 then a else J1.base) = J1.base := by
        have : (J1.count == 0) = false := beq_eq_false_iff_ne.2 hc0
        rw [this]; rfl
      have hap : J1.pos ≤ a := HTU.out.resolve_left hc0
      have t2 : decide ((a : Int) < (J1.pos : Int)) = false := decide_eq_false (by omega)
      have t3 : decide (a < J1.pos) = false := decide_eq_false (by omega)
      have q1 : w9.cell? ⟨w5.heap.size, 0, none⟩ = some (.int .i64 (a : Int)) := HABc.out
      have q7 : w9.cell? ⟨j, 7, none⟩ = some (.int .i64 (J1.pos : Int)) := HJW9.out.2.2.1.cell 7
      go_upto_region 19 with fail
      refine wp_region_quiet_lit (by kernel_rfl) (by kernel_rfl) ?_
      repeat (go_big_quiet_step (fail))
      refine wpQuiet_nil ?_
      intro _ hw'
      obtain ⟨nq, hw''⟩ := hw'
      subst hw''
      go_upto_region 21 with fail
      clear q0 q11 q1 q7
      have HJWx : Hid (JW w9 (w9.drewN nq) B g (c + J.owed.length + 7) (wsec (wsec N1 a ((recL J.next ps).take (ps.length + 1) ++ [zero64])) (a + (ps.length + 1)) [footL J.next]) 1 j (jrnC g { J1 with base := bif J1.count == 0 then a else J1.base } v9)) := by
        show JW _ _ _ _ _ _ _ _ _
        rw [hbs]
        exact HJW9.out.below (below_drewN (Below.refl _ _) nq) hB9
      generalize w9.drewN nq = wx at *
      clear t1 t2 t3 hap hc0
      have hKx := HJWx.out.2.2.2.1
      have HKx : Hid (JKeep B W wx) := HK9.out.trans hKx
      have hBx : B ≤ wx.heap.size := Nat.le_trans hB9 hKx.1.size
      have HPx := hide (HP9.out.keep2 HJWx.out.2.2.2.2 hKx)
      have HOWx := hide (HOW9.out.keep2 HJWx.out.2.2.2.2 hKx)
      have HJBx := hide (hKx.2 _ _ _ HJB9.out (by decide) (by decide) (by decide) (by decide) (by decide))
      have q0 : wx.cell? ⟨jb, 0, none⟩ = some (.pointer (some ⟨j, 0, none⟩)) := HJBx.out.cell 0
      have q1 : wx.cell? ⟨w5.heap.size, 0, none⟩ = some (.int .i64 (a : Int)) := (hKx.2 _ _ _ HAB9.out (by decide) (by decide) (by decide) (by decide) (by decide)).cell 0
      have q2 : wx.cell? ⟨w3.heap.size, 0, none⟩ = some (.slice (some ⟨gl, 0, none⟩) (ps.length + 2) k3) := (hKx.2 _ _ _ HLB9.out (by decide) (by decide) (by decide) (by decide) (by decide)).cell 0
      have y7 : wx.cell? ⟨j, 7, none⟩ = some (.int .i64 (J1.pos : Int)) := HJWx.out.2.2.1.cell 7
      have z7 := HJWx.out.2.2.1.frozen 7
      have hal : a + (ps.length + 2) ≤ 65536 := by
        have h1 := HFT.out
        have h2 := HJWx.out.2.1.all.2
        rw [wsec_len, wsec_len] at h2
        omega
      clear hKx HP9 HOW9 HJB9 HLB9 HAB9 HJW9 HK9 HABc
      go_upto_region 22 with fail
      have HJWy : Hid (JW w9 (wx.setCell ⟨j, 7, none⟩ (.int .i64 ((a : Int) + ((ps.length : Int) + 2)))) B g (c + J.owed.length + 7) (wsec (wsec N1 a ((recL J.next ps).take (ps.length + 1) ++ [zero64])) (a + (ps.length + 1)) [footL J.next]) 1 j (jrnC g { J1 with base := bif J1.count == 0 then a else J1.base, pos := a + (ps.length + 2) } v9)) := HJWx.out.set 7 (.int .i64 ((a : Int) + ((ps.length : Int) + 2)))
      have HKy : Hid (JKeep B W (wx.setCell ⟨j, 7, none⟩ (.int .i64 ((a : Int) + ((ps.length : Int) + 2))))) := HKx.out.trans (JKeep.set hBj HJWx.out.2.2.1 7 _)
      have hky := JKeep.set hBj HJWx.out.2.2.1 7 (.int .i64 ((a : Int) + ((ps.length : Int) + 2)))
      have hpy := PKeep.set HJWx.out.2.2.1 (by decide) 7 (.int .i64 ((a : Int) + ((ps.length : Int) + 2)))
      have HPy := hide (HPx.out.keep2 hpy hky)
      have HOWy := hide (HOWx.out.keep2 hpy hky)
      have HJBy := hide (hky.2 _ _ _ HJBx.out (by decide) (by decide) (by decide) (by decide) (by decide))
      have hBy : B ≤ (wx.setCell ⟨j, 7, none⟩ (.int .i64 ((a : Int) + ((ps.length : Int) + 2)))).heap.size := Nat.le_trans hBx hky.1.size
      clear q0 q1 q2 y7 z7 hky hpy HKx HPx HOWx HJBx hBx HJWx
      generalize wx.setCell ⟨j, 7, none⟩ (.int .i64 ((a : Int) + ((ps.length : Int) + 2))) = wy at *
      obtain ⟨J4, eJ4⟩ : ∃ J4 : JS, { J1 with base := bif J1.count == 0 then a else J1.base, pos := a + (ps.length + 2) } = J4 := ⟨_, rfl⟩
      obtain ⟨N4, eN4⟩ : ∃ N4, (wsec (wsec N1 a ((recL J.next ps).take (ps.length + 1) ++ [zero64])) (a + (ps.length + 1)) [footL J.next]) = N4 := ⟨_, rfl⟩
      rw [eJ4, eN4] at HJWy
      have HE4 : Hid (({ J1 with base := bif J1.count == 0 then a else J1.base, pos := a + (ps.length + 2) } : JS) = J4 ∧ (wsec (wsec N1 a ((recL J.next ps).take (ps.length + 1) ++ [zero64])) (a + (ps.length + 1)) [footL J.next]) = N4) := ⟨eJ4, eN4⟩
      have hJ4o : J4.owed = J1.owed := by rw [← eJ4]
      have hol4 : J4.owed.length ≤ 1000 := by
        rw [hJ4o]
        have h1 := HEQ.out.1
        have h2 := HOK.out.owed
        rw [← h1]
        unfold cmtJ
        cases (roomR J (ps.length + 2)).2
        · exact Nat.zero_le _
        · exact h2
      clear eJ4 eN4
      have HREL : Hid (CmtLoop W wy B g (c + J.owed.length + 7) N4 j J4 A ps 0 wy) := by
        obtain ⟨us, ho, hs, ht⟩ := HOWy.out
        rw [← hJ4o] at ho hs
        refine ⟨v9, us, ⟨hBj, HJWy.out.2.1, HJWy.out.2.2.1, JKeep.refl _ _⟩, by rw [List.take_zero, List.append_nil]; exact ho, by rw [List.take_zero, List.append_nil]; exact hs, fun ad ha e => ?_, HPy.out⟩
        have := ht _ e
        have := HGP.out ad ha
        omega
      clear HOWy HPy HJWy
      go_wp2_with fail
      go_loopw [97] (fun i wr => ∃ k : Nat, k ≤ ps.length ∧ i = .int .i64 k ∧ CmtLoop W wy B g (c + J.owed.length + 7) N4 j J4 A ps k wr) (fun i _ => ps.length - (intOf i).toNat)
      case atStart => exact ⟨0, Nat.zero_le _, rfl, HREL.out⟩
      case round =>
        clear HREL
        obtain ⟨kk, hkk, rfl, vo, us, hjv, hown, hsv, hne, hpa⟩ := hrel
        have HJV := hide hjv
        have HSV := hide hsv
        have HNE := hide hne
        have HPA := hide hpa
        have HJBr := hide (hjv.2.2.2.2 _ _ _ HJBy.out (by decide) (by decide) (by decide) (by decide) (by decide))
        have hBr : B ≤ wr.heap.size := Nat.le_trans hBy hjv.2.2.2.1.size
        have hll : (J4.owed ++ ps.take kk).length = J4.owed.length + kk := by rw [List.length_append, List.length_take]; omega
        have husl : us.length = (J4.owed ++ ps.take kk).length := by rw [hsv.1, List.length_map]
        rw [hll] at hown
        have HOWN := hide hown
        obtain ⟨Ao, co, evo⟩ := own_form hown
        subst evo
        obtain ⟨no, hno⟩ : ∃ no, J4.owed.length + kk = no := ⟨_, rfl⟩
        rw [hno] at HOWN HJV HNE hll
        have hnol : no ≤ 1010 := by omega
        clear hjv hown hsv hne hpa
        by_cases hlt : kk < ps.length
        · obtain ⟨gr, cur, eAA, hb0, hc0⟩ := HPA.out (by omega)
          obtain ⟨u, c0, c1, hsu⟩ := hc0 kk ps[kk] (List.getElem?_eq_getElem hlt)
          obtain ⟨gb, cb, cub, rfl, hcb, hbb0, htk, _⟩ := hsu
          have HPO := hide (HOK.out.puts _ (List.getElem_mem hlt)).1
          have HT := hide (show J4.owed ++ ps.take (kk + 1) = (J4.owed ++ ps.take kk) ++ [ps[kk]] by rw [List.append_assoc, List.take_succ_eq_append_getElem hlt])
          generalize ps[kk] = p at *
          have hp64 := HPO.out.2
          rw [hp64] at c1 htk hcb
          have r0 : wr.cell? ⟨gr, kk * 2, none⟩ = some (.int .i64 (p.1 : Int)) := by rw [hb0.cell, Nat.mul_comm]; exact c0
          have r1 : wr.cell? ⟨gr, kk * 2 + 1, none⟩ = some (.slice (some ⟨gb, 0, none⟩) 64 cb) := by rw [hb0.cell, Nat.mul_comm]; exact c1
          have hzp : ∀ W', (zeroValue 37).run Try.prog W' = .ok (.agg #[.int .i64 0, .slice none 0 0]) W' := fun W' => zero_put W'
          have HBP : Hid (Blk (wr.alloc (.cells (putC p (.slice (some ⟨gb, 0, none⟩) 64 cb)) 37)) wr.heap.size 37 (putC p (.slice (some ⟨gb, 0, none⟩) 64 cb))) := Blk.new _ _ _
          have HLO : Hid (Below wr.heap.size wr (wr.alloc (.cells (putC p (.slice (some ⟨gb, 0, none⟩) 64 cb)) 37))) := (Below.refl _ _).alloc (Nat.le_refl _) _
          have HBB := hide (show Blk wr gb 5 cub ∧ cub.toList.take 64 = byts p.2 from ⟨hbb0, htk⟩)
          have i1 : (0 : Int) ≤ (kk : Int) := by omega
          have i2 : (kk : Int) < (ps.length : Int) := by omega
          subst eAA
          clear c0 c1 hb0 hc0 hbb0 htk
          obtain ⟨wp, hw5⟩ : ∃ wp, wr.alloc (.cells (putC p (.slice (some ⟨gb, 0, none⟩) 64 cb)) 37) = wp := ⟨_, rfl⟩
          rw [hw5] at HBP HLO
          unfold putC at hw5
          go_wp2_with fail
          clear hw5 hzp r0 r1
          have HSX : Hid (∀ x, Below wp.heap.size wp x → x.cell? ⟨jb, 0, none⟩ = some (.pointer (some ⟨j, 0, none⟩)) ∧ x.cell? ⟨j, 10, none⟩ = some (.slice Ao no co) ∧ x.cell? ⟨wr.heap.size, 0, none⟩ = some (.int .i64 (p.1 : Int)) ∧ x.cell? ⟨wr.heap.size, 1, none⟩ = some (.slice (some ⟨gb, 0, none⟩) 64 cb)) := fun x hx => by
            have hb := HBP.out.below hx HBP.out.lt
            have hj5 := HJV.out.2.2.1.below HLO.out HJV.out.2.2.1.lt
            have hj := hj5.below hx hj5.lt
            have hq5 := HJBr.out.below HLO.out HJBr.out.lt
            have hq := hq5.below hx hq5.lt
            exact ⟨hq.cell 0, hj.cell 10, hb.cell 0, hb.cell 1⟩
          refine region_U (fun x => x.cell? ⟨jb, 0, none⟩ = some (.pointer (some ⟨j, 0, none⟩)) ∧ x.cell? ⟨j, 10, none⟩ = some (.slice Ao no co) ∧ x.cell? ⟨wr.heap.size, 0, none⟩ = some (.int .i64 (p.1 : Int)) ∧ x.cell? ⟨wr.heap.size, 1, none⟩ = some (.slice (some ⟨gb, 0, none⟩) 64 cb)) 15 (by kernel_rfl) ?_
          intro Y hY
          have HBY : Hid (Below wp.heap.size wp Y) := by rw [hY]; exact (Below.refl _ _).drew
          have HSY := hide (HSX.out Y HBY.out)
          clear hY
          refine takeV 16 0 (.pointer (some ⟨j, 0, none⟩)) rfl (by kernel_rfl) (fun _ _ _ h => h) (by rfl) (fun x hS => by
            obtain ⟨s0, s1, s2, s3⟩ := hS
            go_simp) HSY.out ?_
          simp only [Act.put, List.getElem_toArray, List.getElem_cons_succ, List.getElem_cons_zero, List.setIfInBounds_toArray, List.set_cons_zero, List.set_cons_succ]
          refine takeV 16 1 (.pointer (some ⟨j, 0, none⟩)) rfl (by kernel_rfl) (fun _ _ _ h => h) (by rfl) (fun x hS => by
            obtain ⟨s0, s1, s2, s3⟩ := hS
            go_simp) HSY.out ?_
          simp only [Act.put, List.getElem_toArray, List.getElem_cons_succ, List.getElem_cons_zero, List.setIfInBounds_toArray, List.set_cons_zero, List.set_cons_succ]
          refine takeV 16 2 (.pointer (some ⟨j, 0, none⟩)) rfl (by kernel_rfl) (fun _ _ _ h => h) (by rfl) (fun x hS => by
            obtain ⟨s0, s1, s2, s3⟩ := hS
            go_simp) HSY.out ?_
          simp only [Act.put, List.getElem_toArray, List.getElem_cons_succ, List.getElem_cons_zero, List.setIfInBounds_toArray, List.set_cons_zero, List.set_cons_succ]
          refine takeV 16 3 (.pointer (some ⟨j, 10, none⟩)) rfl (by kernel_rfl) (fun _ _ _ h => h) (by rfl) (fun x hS => by
            obtain ⟨s0, s1, s2, s3⟩ := hS
            go_simp) HSY.out ?_
          simp only [Act.put, List.getElem_toArray, List.getElem_cons_succ, List.getElem_cons_zero, List.setIfInBounds_toArray, List.set_cons_zero, List.set_cons_succ]
          refine takeV 16 4 (.slice Ao no co) rfl (by kernel_rfl) (fun _ _ _ h => h) (by rfl) (fun x hS => by
            obtain ⟨s0, s1, s2, s3⟩ := hS
            go_simp) HSY.out ?_
          simp only [Act.put, List.getElem_toArray, List.getElem_cons_succ, List.getElem_cons_zero, List.setIfInBounds_toArray, List.set_cons_zero, List.set_cons_succ]
          refine takeV 16 5 (.pointer (some ⟨wr.heap.size, 0, none⟩)) rfl (by kernel_rfl) (fun _ _ _ h => h) (by rfl) (fun x hS => by
            obtain ⟨s0, s1, s2, s3⟩ := hS
            go_simp) HSY.out ?_
          simp only [Act.put, List.getElem_toArray, List.getElem_cons_succ, List.getElem_cons_zero, List.setIfInBounds_toArray, List.set_cons_zero, List.set_cons_succ]
          refine takeV 16 6 (.int .i64 (p.1 : Int)) rfl (by kernel_rfl) (fun _ _ _ h => h) (by rfl) (fun x hS => by
            obtain ⟨s0, s1, s2, s3⟩ := hS
            go_simp) HSY.out ?_
          simp only [Act.put, List.getElem_toArray, List.getElem_cons_succ, List.getElem_cons_zero, List.setIfInBounds_toArray, List.set_cons_zero, List.set_cons_succ]
          refine takeV 16 7 (.pointer (some ⟨wr.heap.size, 1, none⟩)) rfl (by kernel_rfl) (fun _ _ _ h => h) (by rfl) (fun x hS => by
            obtain ⟨s0, s1, s2, s3⟩ := hS
            go_simp) HSY.out ?_
          simp only [Act.put, List.getElem_toArray, List.getElem_cons_succ, List.getElem_cons_zero, List.setIfInBounds_toArray, List.set_cons_zero, List.set_cons_succ]
          refine takeV 16 8 (.slice (some ⟨gb, 0, none⟩) 64 cb) rfl (by kernel_rfl) (fun _ _ _ h => h) (by rfl) (fun x hS => by
            obtain ⟨s0, s1, s2, s3⟩ := hS
            go_simp) HSY.out ?_
          simp only [Act.put, List.getElem_toArray, List.getElem_cons_succ, List.getElem_cons_zero, List.setIfInBounds_toArray, List.set_cons_zero, List.set_cons_succ]
          have HPY : Hid (Below wr.heap.size wr Y) := HLO.out.trans (HBY.out.mono HLO.out.size)
          have HCL := hide (clone_some p.2 ⟨gb, 0, none⟩ 64 cb Y.heap.size Y hp64.symm (by omega) (Nat.le_refl _) (bytes_blk (HBB.out.1.below HPY.out HBB.out.1.lt) (by rw [hp64]; exact HBB.out.2)))
          refine oneU 9 rfl (by kernel_rfl) (by rfl) ?_
          go_wp2_with fail
          refine (unhide HCL).mono ?_
          rintro e y1 ⟨v1, rfl, ho1, hb1⟩
          have HSV1 := hide (SecV.of_own ho1 (by omega))
          rw [hp64] at ho1
          obtain ⟨g1, c1, e1, _, _⟩ := ho1.form (by omega)
          subst e1
          have HB1 : Hid (Below wp.heap.size wp y1) := HBY.out.trans (hb1.mono HBY.out.size)
          have HS1 := hide (HSX.out y1 HB1.out)
          clear ho1 hb1 HCL
          refine ⟨(by first | exact fun _ => HS1.out | exact HS1.out), ?_⟩
          try simp only [Act.put, List.getElem_toArray, List.getElem_cons_succ, List.getElem_cons_zero, List.setIfInBounds_toArray, List.set_cons_zero, List.set_cons_succ]
          refine oneU 10 rfl (by kernel_rfl) (by rfl) ?_
          have hbld := build_put y1 (p.1 : Int) g1 64 c1
          go_wp2_with fail
          clear hbld
          refine ⟨(by first | exact fun _ => HS1.out | exact HS1.out), ?_⟩
          try simp only [Act.put, List.getElem_toArray, List.getElem_cons_succ, List.getElem_cons_zero, List.setIfInBounds_toArray, List.set_cons_zero, List.set_cons_succ]
          refine oneU 11 rfl (by kernel_rfl) (by rfl) ?_
          have HB2 : Hid (Below wp.heap.size wp (y1.alloc (.cells #[.int .i64 (p.1 : Int), .slice (some ⟨g1, 0, none⟩) 64 c1] 37))) := HB1.out.alloc HB1.out.size _
          have HA2 : Hid (Below y1.heap.size y1 (y1.alloc (.cells #[.int .i64 (p.1 : Int), .slice (some ⟨g1, 0, none⟩) 64 c1] 37))) := (Below.refl _ _).alloc (Nat.le_refl _) _
          have HS2 := hide (HSX.out _ HB2.out)
          have HR2 : Hid (Reads (y1.alloc (.cells #[.int .i64 (p.1 : Int), .slice (some ⟨g1, 0, none⟩) 64 c1] 37)) (y1.heap.size + 1) 2 (some ⟨y1.heap.size, 0, none⟩) 1 [.int .i64 (p.1 : Int), .slice (some ⟨g1, 0, none⟩) 64 c1]) := ⟨rfl, fun _ => ⟨_, rfl, by simp, fun j u hu => by
            rw [add_flat, cell_new, ← hu]
            simp⟩⟩
          have HW2 : Hid (Below wr.heap.size wr (y1.alloc (.cells #[.int .i64 (p.1 : Int), .slice (some ⟨g1, 0, none⟩) 64 c1] 37))) := HLO.out.trans (HB2.out.mono HLO.out.size)
          have HOW2 := hide (own_keep HOWN.out HW2.out)
          have HJV2 := hide (HJV.out.below HW2.out hBr)
          have HPA2 := hide (HPA.out.below HW2.out)
          have HSVA2 := hide ((HSV.out.below HW2.out).snoc ((HSV1.out.below HA2.out).weak (D' := fun _ => True) (fun _ _ _ => trivial)))
          have HBP2 := hide (HBP.out.below HB2.out HBP.out.lt)
          have HJB2 := hide (HJBr.out.below HW2.out HJBr.out.lt)
          have HLTr : Hid (∀ q, (Value.slice Ao no co).ownBlock = some q → q < wr.heap.size) := fun q e => (HOWN.out.lt q e).2
          go_wp2_with fail
          refine ⟨(by first | exact fun _ => HS2.out | exact HS2.out), ?_⟩
          try simp only [Act.put, List.getElem_toArray, List.getElem_cons_succ, List.getElem_cons_zero, List.setIfInBounds_toArray, List.set_cons_zero, List.set_cons_succ]
          clear HS1 HB1 HA2 HSV1 HS2 HPY HSY
          obtain ⟨y2, hy2⟩ : ∃ y2, y1.alloc (.cells #[.int .i64 (p.1 : Int), .slice (some ⟨g1, 0, none⟩) 64 c1] 37) = y2 := ⟨_, rfl⟩
          rw [hy2] at HB2 HR2 HW2 HOW2 HJV2 HPA2 HSVA2 HBP2 HJB2 ⊢
          clear hy2
          have hB2 : B ≤ y2.heap.size := Nat.le_trans hBr HW2.out.size
          obtain ⟨ip, hip, hp0, hp1, hp2⟩ := info_parts info_put
          refine oneU 12 rfl (by kernel_rfl) (by rfl) (wp_append_any _ (.tmp 105) (.tmp 112) 66 (by rfl) B 37 ip _ 2 32 Try.underlying66 hip hp0 hp1 hp2 rfl (by omega) (.slice Ao no co) no (putsC (J4.owed ++ ps.take kk) us) (by rfl) HOW2.out (y1.heap.size + 1) (some ⟨y1.heap.size, 0, none⟩) 1 1 [.int .i64 (p.1 : Int), .slice (some ⟨g1, 0, none⟩) 64 c1] (by rfl) HR2.out (by simp [Value.oneCell']) (by simp only [maxLen]; omega) (by omega) hB2 ?_)
          intro v6 y3 hown6 hg6 hat6
          obtain ⟨A6, c6, e6⟩ := own_form hown6
          subst e6
          have HJV3 := hide (HJV2.out.grown hB2 HOW2.out hg6)
          have HOW3 := hide hown6
          have HSV3 := hide (HSVA2.out.own HOW2.out (by decide) hg6)
          have HPA3 : Hid (PutsAt y3 (some ⟨gr, 0, none⟩) ps) := fun h0 => by
            obtain ⟨gr', cur', ee, hb, hcc⟩ := HPA2.out h0
            refine ⟨gr', cur', ee, (Fr.of_grown hg6).blk hb (fun e => ?_), fun i p hp => ?_⟩
            · injection ee with ee
              injection ee with ee
              subst ee
              exact HNE.out ⟨gr, 0, none⟩ rfl e
            · obtain ⟨u, k1, k2, k3⟩ := hcc i p hp
              exact ⟨u, k1, k2, k3.own HOW2.out (by decide) hg6⟩
          have HNE3 : Hid (∀ ad, (some ⟨gr, 0, none⟩ : Option Addr) = some ad → (Value.slice A6 (no + 1) c6).ownBlock ≠ some ad.block) := fun ad ha e => by
            rcases hat6 with h | h
            · rw [h] at e
              exact HNE.out ad ha e
            · rw [h] at e
              injection e with e
              injection ha with ha
              subst ha
              obtain ⟨gr', cur', ee, hb, _⟩ := HPA2.out (by omega)
              injection ee with ee
              injection ee with ee
              have := hb.lt
              have e : y2.heap.size = gr := e
              omega
          have HS3 : Hid (y3.cell? ⟨jb, 0, none⟩ = some (.pointer (some ⟨j, 0, none⟩)) ∧ y3.cell? ⟨j, 10, none⟩ = some (.slice Ao no co) ∧ y3.cell? ⟨wr.heap.size, 0, none⟩ = some (.int .i64 (p.1 : Int)) ∧ y3.cell? ⟨wr.heap.size, 1, none⟩ = some (.slice (some ⟨gb, 0, none⟩) 64 cb)) := by
            have hb := (Fr.of_grown hg6).blk HBP2.out (fun e => Nat.lt_irrefl _ (HLTr.out _ e))
            have hq := (Fr.of_grown hg6).blk HJB2.out (fun e => own_blk_ne HOW2.out HJB2.out (by decide) e)
            exact ⟨hq.cell 0, HJV3.out.2.2.1.cell 10, hb.cell 0, hb.cell 1⟩
          clear hown6 hg6 hat6 HR2
          refine ⟨(by first | exact fun _ => HS3.out | exact HS3.out), ?_⟩
          try simp only [Act.put, List.getElem_toArray, List.getElem_cons_succ, List.getElem_cons_zero, List.setIfInBounds_toArray, List.set_cons_zero, List.set_cons_succ]
          refine oneU 13 rfl (by kernel_rfl) (by rfl) ?_
          go_wp2_with fail
          refine ⟨(by first | exact fun _ => HS3.out | exact HS3.out), ?_⟩
          try simp only [Act.put, List.getElem_toArray, List.getElem_cons_succ, List.getElem_cons_zero, List.setIfInBounds_toArray, List.set_cons_zero, List.set_cons_succ]
          refine oneU 14 rfl (by kernel_rfl) (by rfl) ?_
          go_wp2_with fail
          refine ⟨(by first | exact fun _ => HS3.out | exact HS3.out), ?_⟩
          try simp only [Act.put, List.getElem_toArray, List.getElem_cons_succ, List.getElem_cons_zero, List.setIfInBounds_toArray, List.set_cons_zero, List.set_cons_succ]
          refine oneU 15 rfl (by kernel_rfl) (by rfl) ?_
          have y10 : y3.cell? ⟨j, 10, none⟩ = some (.slice Ao no co) := HS3.out.2.1
          have z10 := HJV3.out.2.2.1.frozen 10
          go_wp2_with fail
          refine doneU (by kernel_rfl) ?_ _
          clear y10 z10 HS3
          have HJ3 := hide HJV3.out.2.2.1
          have hrel : CmtLoop W wy B g (c + J.owed.length + 7) N4 j J4 (some ⟨gr, 0, none⟩) ps (kk + 1) (y3.setCell ⟨j, 10, none⟩ (.slice A6 (no + 1) c6)) := by
            refine ⟨.slice A6 (no + 1) c6, us ++ [.slice (some ⟨g1, 0, none⟩) 64 c1], HJV3.out.set 10 _, ?_, ?_, HNE3.out, HPA3.out.keep2 (PKeep.set HJ3.out (by decide) 10 _) (JKeep.set hBj HJ3.out 10 _)⟩
            · have ho := own_far HOW3.out HJ3.out (by decide) (.slice A6 (no + 1) c6) (i := 10)
              rw [HT.out, putsC_snoc _ _ _ _ husl, List.length_append, hll]
              exact ho
            · rw [HT.out, List.map_append]
              exact HSV3.out.far HJ3.out (by decide) _
          have HREL' := hide hrel
          clear hrel
          go_wp2
          go_roundw
          case rel => exact ⟨kk + 1, by omega, by go_num, HREL'.out⟩
          case measure => simp [intOf]; omega
        · obtain rfl : kk = ps.length := by omega
          rw [List.take_length] at HOWN HSV hll husl
          have n1 : J4.next < 65535 := by
            rw [← HE4.out.1]
            show J1.next < _
            rw [hJn]
            exact hJnx
          have n2 : J4.count < 65535 := by
            rw [← HE4.out.1]
            exact hJc
          have q0 : wr.cell? ⟨jb, 0, none⟩ = some (.pointer (some ⟨j, 0, none⟩)) := HJBr.out.cell 0
          have q6 : wr.cell? ⟨j, 6, none⟩ = some (.int .i64 (J4.next : Int)) := HJV.out.2.2.1.cell 6
          have q11 : wr.cell? ⟨j, 11, none⟩ = some (.int .i64 (J4.count : Int)) := HJV.out.2.2.1.cell 11
          have z6 := HJV.out.2.2.1.frozen 6
          have z11 := HJV.out.2.2.1.frozen 11
          have HJ6 := hide HJV.out.2.2.1
          have HJ11 := hide (HJV.out.set 6 (.int .i64 ((J4.next : Int) + 1))).2.2.1
          have HJZ := hide ((HJV.out.set 6 (.int .i64 ((J4.next : Int) + 1))).set 11 (.int .i64 ((J4.count : Int) + 1)))
          have HOZ := hide (own_far (own_far HOWN.out HJ6.out (by decide) (.int .i64 ((J4.next : Int) + 1)) (i := 6)) HJ11.out (by decide) (.int .i64 ((J4.count : Int) + 1)) (i := 11))
          have HSZ := hide ((HSV.out.far HJ6.out (by decide) (.int .i64 ((J4.next : Int) + 1)) (i := 6)).far HJ11.out (by decide) (.int .i64 ((J4.count : Int) + 1)) (i := 11))
          have HJBz := hide (((JKeep.set hBj HJ6.out 6 (.int .i64 ((J4.next : Int) + 1))).trans (JKeep.set hBj HJ11.out 11 (.int .i64 ((J4.count : Int) + 1)))).2 _ _ _ HJBr.out (by decide) (by decide) (by decide) (by decide) (by decide))
          clear HNE HPA
          go_upto_region 29 with fail
          clear q0 q6 q11 z6 z11 HJ6 HJ11 HJV HOWN HSV HJBr
          obtain ⟨wz, hwz⟩ : ∃ wz, (wr.setCell ⟨j, 6, none⟩ (.int .i64 ((J4.next : Int) + 1))).setCell ⟨j, 11, none⟩ (.int .i64 ((J4.count : Int) + 1)) = wz := ⟨_, rfl⟩
          rw [hwz] at HJZ HOZ HSZ HJBz ⊢
          clear hwz
          have q0 : wz.cell? ⟨jb, 0, none⟩ = some (.pointer (some ⟨j, 0, none⟩)) := HJBz.out.cell 0
          have q1 : wz.cell? ⟨j, 0, none⟩ = some (.pointer (some ⟨g, 0, none⟩)) := HJZ.out.2.2.1.cell 0
          have HFL := hide (HJZ.out.2.1.flush (by omega))
          go_wp2_with fail
          refine (unhide HFL).mono ?_
          rintro e wf ⟨rfl, hdf, hkf⟩
          have HDF := hide hdf
          have HKF := hide hkf
          clear hdf hkf HFL q0 q1
          go_wp2
          go_ret2
          refine ⟨rfl, ⟨hBj, .slice Ao no co, ?_, ⟨us, ?_, ?_, ?_⟩⟩, ?_, (HKy.out.trans HJZ.out.2.2.2).trans (JKeep.of_dkeep HKF.out)⟩
          · have hb := HKF.out.2 _ _ _ HJZ.out.2.2.1 (by decide) (by decide) (by decide)
            unfold doneJ
            rw [HEQ.out.1, HEQ.out.2.2, ← hJn]
            have e4 := HE4.out.1
            subst e4
            exact hb
          · have ho := own_dkeep HOZ.out HKF.out (by decide) (by decide) (by decide)
            unfold doneJ
            rw [HEQ.out.1, ← hJ4o]
            show wf.ownsRow _ _ _ _ (J4.owed ++ ps).length _
            rw [hll]
            exact ho
          · have hs := HSZ.out.dkeep HKF.out
            unfold doneJ
            rw [HEQ.out.1, ← hJ4o]
            exact hs
          · intro q e
            exact Nat.lt_of_lt_of_le (HOZ.out.lt q e).2 HKF.out.1.size
          · unfold doneN
            rw [HEQ.out.2.1, HEQ.out.2.2, HE4.out.2]
            exact HDF.out
end
end Go.Proofs.Ytogjdfiimflbaaa
