/-
  The reference device's Write. Condition: it lies as its state says; the sectors read as lists of 64 octets.
-/
import Derived.Test.YtenhjnicadjbaaaDoorRefNew
namespace Go.Proofs.YtenhjnicadjbaaaDoor
open Go Go.RowKit

def writeW (R : RS) (a : Nat) : List (List UInt8) → RS
  | [] => R
  | s :: r => writeW { R with wait := R.wait ++ [(a, s)] } (a + 1) r
theorem writeW_snoc : ∀ (l : List (List UInt8)) (R : RS) (a : Nat) (s : List UInt8), writeW R a (l ++ [s]) = { writeW R a l with wait := (writeW R a l).wait ++ [(a + l.length, s)] }
  | [], R, a, s => rfl
  | x :: r, R, a, s => by
    show writeW { R with wait := R.wait ++ [(a, x)] } (a + 1) (r ++ [s]) = _
    rw [writeW_snoc r]
    show _ = { writeW { R with wait := R.wait ++ [(a, x)] } (a + 1) r with wait := (writeW { R with wait := R.wait ++ [(a, x)] } (a + 1) r).wait ++ [(a + (r.length + 1), s)] }
    rw [show a + 1 + r.length = a + (r.length + 1) by omega]
theorem writeW_facts : ∀ (l : List (List UInt8)) (R : RS) (a : Nat), (writeW R a l).safe = R.safe ∧ (writeW R a l).n = R.n ∧ (writeW R a l).bad = R.bad ∧ (writeW R a l).wait.length = R.wait.length + l.length
  | [], R, a => ⟨rfl, rfl, rfl, rfl⟩
  | x :: r, R, a => by
    obtain ⟨h1, h2, h3, h4⟩ := writeW_facts r { R with wait := R.wait ++ [(a, x)] } (a + 1)
    refine ⟨h1, h2, h3, h4.trans ?_⟩
    simp only [List.length_append, List.length_cons, List.length_nil]
    omega
def writeCodeR (R : RS) (at_ : Int) (ls : List (List UInt8)) : Int := if thereR R at_ ls.length = true then codeR R else 2
def writeToR (R : RS) (at_ : Int) (ls : List (List UInt8)) : RS := if thereR R at_ ls.length = true then (if codeR R = 0 then writeW (stepR R) at_.toNat ls else stepR R) else R
/-- the types that the reference's Write writes -/
def wT (t : TypeId) : Bool := t == 95 || t == 98
theorem RKeep.ofW {B : Nat} {W W' : World} (h : TKeep wT B W W') : RKeep B W W' := ⟨h.1, fun q cs t hb hn => h.2 q cs t hb (by
  unfold refT at hn
  unfold wT
  simp only [Bool.or_eq_false_iff] at hn
  simp only [hn.1.1, hn.2, Bool.or_self])⟩
theorem TKeep.of95 {B : Nat} {W W' : World} (h : TKeep (· == 95) B W W') : TKeep wT B W W' := ⟨h.1, fun q cs t hb hn => h.2 q cs t hb (by
  unfold wT at hn
  simp only [Bool.or_eq_false_iff] at hn
  exact hn.1)⟩
theorem RowsBlk.tkeep {no : TypeId → Bool} {B : Nat} {W W' : World} {A : Option Addr} {ls : List (List UInt8)} (h : RowsBlk W A ls) (hk : TKeep no B W W') (h1 : no 23 = false) (h2 : no 5 = false) : RowsBlk W' A ls := fun hp => by
  obtain ⟨gr, cur, rfl, hb, hc⟩ := h hp
  refine ⟨gr, cur, rfl, hk.2 _ _ _ hb h1, fun i hi => ?_⟩
  obtain ⟨gi, ci, cu, q1, q2, q3, q4⟩ := hc i hi
  exact ⟨gi, ci, cu, q1, q2, hk.2 _ _ _ q3 h2, q4⟩
theorem info_w98 : (Tryd.prog.info? 98).map (fun i => (i.zero, i.size, i.bytes)) = some (some (.agg #[.int .i64 0, .slice none 0 0]), 2, 32) := by kernel_rfl
theorem reads_two {w : World} {B g : Nat} {t : TypeId} {u v : Value} (hg : g < B) (h : Blk w g t #[u, v]) : Reads w B 2 (some ⟨g, 0, none⟩) 1 [u, v] := by
  refine ⟨rfl, fun _ => ⟨_, rfl, hg, fun j x hx => ?_⟩⟩
  rw [add_flat, Nat.zero_add, h.cell]
  match j, hx with
  | 0, hx => exact hx
  | 1, hx => exact hx
  | j + 2, hx => cases hx

/-- a write put behind those that wait -/
theorem RefIn.pushW {W W1 W3 : World} {B r g1 c1 a : Nat} {sv wv bv v' : Value} {R : RS} {s : List UInt8} {cu : Array Value} {ys : List Value} (h : RefIn W B r sv wv bv R) (hs : s.length = 64) (ha : a < R.safe.length) (hlen : R.wait.length + 1 ≤ 1048576)
    (hb1 : Below W.heap.size W W1) (hoy : W.ownsRow B 98 2 wv R.wait.length ys) (hyy : ∀ (i : Nat) (hi : i < R.wait.length), ∃ gi ci cu, ys[2 * i]? = some (.int .i64 (R.wait[i].1 : Int)) ∧ ys[2 * i + 1]? = some (.slice (some ⟨gi, 0, none⟩) 64 ci) ∧ 64 ≤ ci ∧ Blk W gi 5 cu ∧ cu.toList.take 64 = byts R.wait[i].2)
    (hgrow : W1.grownBy W3 wv.ownBlock) (hown : W3.ownsRow B 98 2 v' (R.wait.length + 1) (ys ++ [.int .i64 (a : Int), .slice (some ⟨g1, 0, none⟩) 64 c1])) (hc : 64 ≤ c1) (hbk : Blk W1 g1 5 cu) (ht : cu.toList.take 64 = byts s) :
    RefIn (W3.setCell ⟨r, 1, none⟩ v') B r sv v' bv { R with wait := R.wait ++ [(a, s)] } ∧ TKeep wT B W (W3.setCell ⟨r, 1, none⟩ v') := by
  obtain ⟨hS1, hS2, hS3, hS4, hS5, hS6, hS7⟩ := h.ok
  have far : ∀ q cs t, Blk W1 q t cs → t ≠ 98 → Blk W3 q t cs := fun q cs t hq hne => hq.grown hgrow (by
    intro e
    rcases hoy.2 with ⟨rfl, _⟩ | ⟨g, cap, cur, rfl, _, hb, _⟩
    · simp [Value.ownBlock] at e
    · have : g = q := by simpa [Value.ownBlock] using e.symm
      subst this
      exact Blk.ne_ hq (Blk.below (show Blk W g 98 cur from hb) hb1 (Blk.lt (show Blk W g 98 cur from hb))) hne rfl)
  have hdev3 : Blk W3 r 95 (refCells R sv wv bv) := far _ _ _ (h.dev.below hb1 h.dev.lt) (by decide)
  have far2 : ∀ q cs t, Blk W3 q t cs → t ≠ 95 → Blk (W3.setCell ⟨r, 1, none⟩ v') q t cs := fun q cs t hq hne => hq.far (fun e => Blk.ne_ hq hdev3 hne (by exact e)) _
  have hBW : B ≤ W.heap.size := Nat.le_trans h.br (Nat.le_of_lt h.dev.lt)
  have hk : TKeep wT B W (W3.setCell ⟨r, 1, none⟩ v') := by
    refine ⟨(((hb1.mono hBW).grown hgrow (Nat.le_trans hBW hb1.size) (fun k hk => (World.ownsRow.lt hoy k hk).1))).setCell (p := ⟨r, 1, none⟩) h.br _, fun q cs t hq hn => ?_⟩
    unfold wT at hn
    simp only [Bool.or_eq_false_iff, beq_eq_false_iff_ne] at hn
    exact far2 _ _ _ (far _ _ _ (hq.below hb1 hq.lt) hn.2) hn.1
  have hset : W3.grownBy (W3.setCell ⟨r, 1, none⟩ v') (some r) := only_setCell (World.grownBy.refl W3 (some r)) (.inl rfl) v'
  have hyl : ys.length = 2 * R.wait.length := by have := hoy.1; omega
  refine ⟨⟨⟨hS1, fun e he => ?_, hS3, by show (R.wait ++ [(a, s)]).length ≤ _; rw [List.length_append]; exact hlen, hS5, hS6, hS7⟩, h.br, hdev3.set_ 1 v', h.safe.keep hk rfl rfl, ⟨ys ++ [.int .i64 (a : Int), .slice (some ⟨g1, 0, none⟩) 64 c1], ?_, fun i hi => ?_⟩, ?_⟩, hk⟩
  · rcases List.mem_append.1 he with he | he
    · exact hS2 e he
    · rw [List.mem_singleton.1 he]
      exact ⟨ha, hs⟩
  · show World.ownsRow _ _ _ _ _ (R.wait ++ [(a, s)]).length _
    rw [List.length_append]
    exact hown.kept hset (.inr (own_blk_ne hown hdev3 (by decide)))
  · by_cases hlt : i < R.wait.length
    · obtain ⟨gi, ci, cu, q1, q2, q3, q4, q5⟩ := hyy i hlt
      have e : (R.wait ++ [(a, s)])[i]'(hi) = R.wait[i] := List.getElem_append_left hlt
      rw [e]
      exact ⟨gi, ci, cu, by rw [List.getElem?_append_left (by omega)]; exact q1, by rw [List.getElem?_append_left (by omega)]; exact q2, q3, far2 _ _ _ (far _ _ _ (q4.below hb1 q4.lt) (by decide)) (by decide), q5⟩
    · obtain rfl : i = R.wait.length := by
        have : i < (R.wait ++ [(a, s)]).length := hi
        rw [List.length_append, List.length_singleton] at this
        omega
      have e : (R.wait ++ [(a, s)])[R.wait.length]'(hi) = (a, s) := by simp
      rw [e]
      refine ⟨g1, c1, cu, ?_, ?_, hc, far2 _ _ _ (far _ _ _ hbk (by decide)) (by decide), ht⟩
      · rw [List.getElem?_append_right (by omega), hyl, Nat.sub_self]
        rfl
      · rw [List.getElem?_append_right (by omega), hyl, show 2 * R.wait.length + 1 - 2 * R.wait.length = 1 by omega]
        rfl
  · obtain ⟨A, c, e, hr⟩ := h.bad
    exact ⟨A, c, e, hr.below hk.1⟩

set_option maxRecDepth 100000 in
set_option maxHeartbeats 4000000 in
theorem rwrite_keep (W : World) (B r : Nat) (R : RS) (h : RefAt W B r R) (hn : R.n < 1048576) (at_ : Int) (ls : List (List UInt8)) (A : Option Addr) (n c : Nat) (hn2 : n = ls.length) (hq : R.wait.length + ls.length ≤ 1048576) (h64 : All64 ls) (hA : RowsBlk W A ls) :
    Calls Tryd.prog 32 #[.pointer (some ⟨r, 0, none⟩), .int .i64 at_, .slice A n c] W fun e W' => e = .returned (.int .i64 (writeCodeR R at_ ls)) ∧ RefAt W' B r (writeToR R at_ ls) ∧ TKeep wT B W W' := by
  subst hn2
  have HT := hide (fun W' (h' : W' = W) => rthere_any W' B r R (by rw [h']; exact h) at_ (ls.length : Int) (by omega))
  cases htb : thereR R at_ ls.length with
  | false =>
    have e1 : writeCodeR R at_ ls = 2 := by unfold writeCodeR; rw [htb]; rfl
    have e2 : writeToR R at_ ls = R := by unfold writeToR; rw [htb]; rfl
    have HD := hide h
    have HT2 := hide (HT.out W rfl)
    rw [htb] at HT2
    rw [e1, e2]
    clear HT h hA h64 htb e1 e2
    go_enter Tryd.func32, Tryd.ntmps32
    go_wp2_with fail
    refine (unhide HT2).mono ?_
    rintro e w' ⟨rfl, rfl⟩
    go_wp2
    go_ret
    exact ⟨rfl, HD.out, TKeep.refl _ _ _⟩
  | true =>
    have HN := hide (rcall_any W B r R h hn)
    have HT2 := hide (HT.out W rfl)
    rw [htb] at HT2
    have e1 : writeCodeR R at_ ls = codeR R := by unfold writeCodeR; rw [htb]; rfl
    have hth := of_decide_eq_true htb
    obtain ⟨a, rfl⟩ : ∃ a : Nat, at_ = a := ⟨at_.toNat, by omega⟩
    have hlen : R.safe.length ≤ 65536 := by obtain ⟨_, _, _, h⟩ := h; exact h.ok.2.2.1
    have hal : a + ls.length ≤ R.safe.length := by omega
    have HRB := hide hA
    have H64 := hide h64
    have HW : Hid (writeToR R a ls = if codeR R = 0 then writeW (stepR R) a ls else stepR R) := (show writeToR R a ls = _ by unfold writeToR; rw [htb]; rfl)
    rw [e1]
    clear HT h hA h64 htb e1 hth
    go_enter Tryd.func32, Tryd.ntmps32
    go_wp2_with fail
    refine (unhide HT2).mono ?_
    rintro e w' ⟨rfl, rfl⟩
    go_wp2_with fail
    go_loop [7] (fun i => ∃ k : Nat, k ≤ ls.length ∧ i = .int .i64 k) (fun i => ls.length - (intOf i).toNat)
    case atStart => exact ⟨0, Nat.zero_le _, rfl⟩
    case round =>
      obtain ⟨k, hk, rfl⟩ := hrel
      by_cases hlt : k < ls.length
      · obtain ⟨gr, cur, rfl, hb, hc⟩ := HRB.out (by omega)
        obtain ⟨gi, ci, cu, h1, h2, h3, h4⟩ := hc k hlt
        have hl64 : ls[k].length = 64 := H64.out _ (List.getElem_mem hlt)
        rw [hl64] at h1
        have r1 := (hb.cell k).trans h1
        clear hb hc h1 h2 h3 h4 hl64
        have i1 : (0 : Int) ≤ (k : Int) := by omega
        have i2 : (k : Int) < (ls.length : Int) := by omega
        go_wp2
        go_round
        case rel => exact ⟨k + 1, by omega, by go_num⟩
        case measure => simp [intOf]; omega
      · obtain rfl : k = ls.length := by omega
        go_wp2_with fail
        refine (unhide HN).mono ?_
        rintro e w1 ⟨rfl, hd, hk1⟩
        have HD := hide hd
        have HK := hide (TKeep.of95 hk1)
        clear hd hk1 HN
        by_cases hc0 : codeR R = 0
        · have HW2 := hide HW.out
          rw [if_pos hc0] at HW2
          have HC0 := hide hc0
          rw [hc0]
          clear hc0
          have hs1 : (stepR R).safe.length = R.safe.length := rfl
          have hw1 : (stepR R).wait.length = R.wait.length := rfl
          have HS1 := hide hs1
          have HW1 := hide hw1
          clear hs1 hw1 HW
          generalize stepR R = R1 at *
          go_wp2_with fail
          go_loopw [9] (fun v wr => ∃ j : Nat, j ≤ ls.length ∧ v = .int .i64 j ∧ RefAt wr B r (writeW R1 a (ls.take j)) ∧ TKeep wT B W wr) (fun v _ => ls.length - (intOf v).toNat)
          case atStart => exact ⟨0, Nat.zero_le _, rfl, HD.out, HK.out⟩
          case round =>
            obtain ⟨j, hj, rfl, ⟨sv, wv, bv, hin⟩, hk⟩ := hrel
            have HKJ := hide hk
            by_cases hlt : j < ls.length
            · obtain ⟨gr, cur, rfl, hbr, hcr⟩ := (HRB.out.tkeep hk rfl rfl) (by omega)
              obtain ⟨gi, ci, cu, h1, h2, h3, h4⟩ := hcr j hlt
              have hs64 : ls[j].length = 64 := H64.out _ (List.getElem_mem hlt)
              rw [hs64] at h1 h2 h4
              have HTK := hide (show writeW R1 a (ls.take (j + 1)) = { writeW R1 a (ls.take j) with wait := (writeW R1 a (ls.take j)).wait ++ [(a + j, ls[j])] } by
                rw [List.take_succ_eq_append_getElem hlt, writeW_snoc, List.length_take, Nat.min_eq_left hj])
              obtain ⟨f1, _, _, f4⟩ := writeW_facts (ls.take j) R1 a
              rw [List.length_take, Nat.min_eq_left hj, HW1.out] at f4
              have HF1 := hide (show (writeW R1 a (ls.take j)).safe.length = R.safe.length by rw [f1]; exact HS1.out)
              have HF4 := hide f4
              clear f1 f4 hk
              generalize writeW R1 a (ls.take j) = Rj at *
              generalize ls[j] = s at *
              obtain ⟨ys, hoy, hyy⟩ := hin.wait
              obtain ⟨Aw, cw, rfl, _⟩ := hin.wait.form
              have HIN := hide hin
              have HOY := hide hoy
              have HYY := hide hyy
              have HBR := hide (show Blk wr gr 23 cur from hbr)
              have HC1 := hide h1
              have HC3 := hide (And.intro h2 (And.intro h3 h4))
              have HNE := hide (own_blk_ne hoy hin.dev (by decide))
              have HNE2 := hide (own_blk_ne hoy hbr (by decide))
              have hqb : Rj.wait.length + 1 ≤ 1048576 := by have := HF4.out; omega
              have HG := hide hin.dev.lt
              have HBG : Hid (B ≤ wr.heap.size) := Nat.le_trans hin.br (Nat.le_of_lt hin.dev.lt)
              have HS3Y : Hid (wr.drew.cell? ⟨r, 1, none⟩ = some (.slice Aw Rj.wait.length cw) ∧ wr.drew.cell? ⟨gr, j, none⟩ = some (.slice (some ⟨gi, 0, none⟩) 64 ci)) := ⟨hin.cells.2.1, (hbr.cell j).trans h1⟩
              have i1 : (0 : Int) ≤ (j : Int) := by omega
              have i2 : (j : Int) < (ls.length : Int) := by omega
              obtain ⟨i0, hi0, hz0, hz1, hz2⟩ := info_parts info_u8
              obtain ⟨q0, hq0, hy0, hy1, hy2⟩ := info_parts info_w98
              have hwr : IntKind.i64.wrap ((a : Int) + (j : Int)) = (a : Int) + (j : Int) := IntWalk.i64_in _ (by omega)
              clear hin hoy hyy hbr hcr h1 h2 h3 h4
              go_wp2_with fail
              refine region_U (fun x => x.cell? ⟨r, 1, none⟩ = some (.slice Aw Rj.wait.length cw) ∧ x.cell? ⟨gr, j, none⟩ = some (.slice (some ⟨gi, 0, none⟩) 64 ci)) 19 (by kernel_rfl) ?_
              intro Y hY
              subst hY
              have HSY := hide HS3Y.out
              refine takeU 0 (.pointer (some ⟨r, 0, none⟩)) rfl (by kernel_rfl) (fun _ _ _ h => h) (by rfl) (fun x hS => by
                obtain ⟨s1, s2⟩ := hS
                go_simp) HSY.out ?_
              simp only [Act.put, List.getElem_toArray, List.getElem_cons_succ, List.getElem_cons_zero, List.setIfInBounds_toArray, List.set_cons_zero, List.set_cons_succ]
              refine takeU 1 (.pointer (some ⟨r, 0, none⟩)) rfl (by kernel_rfl) (fun _ _ _ h => h) (by rfl) (fun x hS => by
                obtain ⟨s1, s2⟩ := hS
                go_simp) HSY.out ?_
              simp only [Act.put, List.getElem_toArray, List.getElem_cons_succ, List.getElem_cons_zero, List.setIfInBounds_toArray, List.set_cons_zero, List.set_cons_succ]
              refine takeU 2 (.pointer (some ⟨r, 0, none⟩)) rfl (by kernel_rfl) (fun _ _ _ h => h) (by rfl) (fun x hS => by
                obtain ⟨s1, s2⟩ := hS
                go_simp) HSY.out ?_
              simp only [Act.put, List.getElem_toArray, List.getElem_cons_succ, List.getElem_cons_zero, List.setIfInBounds_toArray, List.set_cons_zero, List.set_cons_succ]
              refine takeU 3 (.pointer (some ⟨r, 1, none⟩)) rfl (by kernel_rfl) (fun _ _ _ h => h) (by rfl) (fun x hS => by
                obtain ⟨s1, s2⟩ := hS
                go_simp) HSY.out ?_
              simp only [Act.put, List.getElem_toArray, List.getElem_cons_succ, List.getElem_cons_zero, List.setIfInBounds_toArray, List.set_cons_zero, List.set_cons_succ]
              refine takeU 4 (.slice Aw Rj.wait.length cw) rfl (by kernel_rfl) (fun _ _ _ h => h) (by rfl) (fun x hS => by
                obtain ⟨s1, s2⟩ := hS
                go_simp) HSY.out ?_
              simp only [Act.put, List.getElem_toArray, List.getElem_cons_succ, List.getElem_cons_zero, List.setIfInBounds_toArray, List.set_cons_zero, List.set_cons_succ]
              refine takeU 5 (.int .i64 (a : Int)) rfl (by kernel_rfl) (fun _ _ _ h => h) (by rfl) (fun x hS => by
                obtain ⟨s1, s2⟩ := hS
                go_simp) HSY.out ?_
              simp only [Act.put, List.getElem_toArray, List.getElem_cons_succ, List.getElem_cons_zero, List.setIfInBounds_toArray, List.set_cons_zero, List.set_cons_succ]
              refine takeU 6 (.int .i64 (j : Int)) rfl (by kernel_rfl) (fun _ _ _ h => h) (by rfl) (fun x hS => by
                obtain ⟨s1, s2⟩ := hS
                go_simp) HSY.out ?_
              simp only [Act.put, List.getElem_toArray, List.getElem_cons_succ, List.getElem_cons_zero, List.setIfInBounds_toArray, List.set_cons_zero, List.set_cons_succ]
              refine takeU 7 (.int .i64 ((a : Int) + (j : Int))) rfl (by kernel_rfl) (fun _ _ _ h => h) (by rfl) (fun x hS => by
                obtain ⟨s1, s2⟩ := hS
                go_simp) HSY.out ?_
              simp only [Act.put, List.getElem_toArray, List.getElem_cons_succ, List.getElem_cons_zero, List.setIfInBounds_toArray, List.set_cons_zero, List.set_cons_succ]
              refine takeU 9 (.slice (some ⟨gr, 0, none⟩) ls.length c) rfl (by kernel_rfl) (fun _ _ _ h => h) (by rfl) (fun x hS => by
                obtain ⟨s1, s2⟩ := hS
                go_simp) HSY.out ?_
              simp only [Act.put, List.getElem_toArray, List.getElem_cons_succ, List.getElem_cons_zero, List.setIfInBounds_toArray, List.set_cons_zero, List.set_cons_succ]
              refine takeU 10 (.int .i64 (j : Int)) rfl (by kernel_rfl) (fun _ _ _ h => h) (by rfl) (fun x hS => by
                obtain ⟨s1, s2⟩ := hS
                go_simp) HSY.out ?_
              simp only [Act.put, List.getElem_toArray, List.getElem_cons_succ, List.getElem_cons_zero, List.setIfInBounds_toArray, List.set_cons_zero, List.set_cons_succ]
              refine takeU 11 (.pointer (some ⟨gr, j, none⟩)) rfl (by kernel_rfl) (fun _ _ _ h => h) (by rfl) (fun x hS => by
                obtain ⟨s1, s2⟩ := hS
                go_simp) HSY.out ?_
              simp only [Act.put, List.getElem_toArray, List.getElem_cons_succ, List.getElem_cons_zero, List.setIfInBounds_toArray, List.set_cons_zero, List.set_cons_succ]
              refine takeU 12 (.slice (some ⟨gi, 0, none⟩) 64 ci) rfl (by kernel_rfl) (fun _ _ _ h => h) (by rfl) (fun x hS => by
                obtain ⟨s1, s2⟩ := hS
                go_simp) HSY.out ?_
              simp only [Act.put, List.getElem_toArray, List.getElem_cons_succ, List.getElem_cons_zero, List.setIfInBounds_toArray, List.set_cons_zero, List.set_cons_succ]
              have HSX := hide (fun X (hX : Below wr.heap.size wr X) => (show X.cell? ⟨r, 1, none⟩ = some (.slice Aw Rj.wait.length cw) ∧ X.cell? ⟨gr, j, none⟩ = some (.slice (some ⟨gi, 0, none⟩) 64 ci) from ⟨(HIN.out.lift hX).cells.2.1, ((HBR.out.below hX HBR.out.lt).cell j).trans HC1.out⟩))
              have HB1 : Hid (Below wr.heap.size wr (wr.alloc (.cells #[] 5))) := (Below.refl _ _).alloc (Nat.le_refl _) _
              have HOE : Hid ((wr.alloc (.cells #[] 5)).ownsRow wr.heap.size 5 1 (.slice (some ⟨wr.heap.size, 0, none⟩) 0 0) 0 []) := World.ownsRow_made wr #[] 0 (Nat.le_refl _) (by simp only [maxLen]; omega) rfl
              have HRS : Hid (Reads (wr.alloc (.cells #[] 5)).drew wr.heap.size 1 (some ⟨gi, 0, none⟩) 64 (byts s)) := by
                have := bytes_blk (s := s) HC3.out.2.1 (by rw [hs64]; exact HC3.out.2.2)
                unfold BytesAt at this
                rw [hs64] at this
                exact Reads.alloc this (Nat.le_refl _) _
              refine oneU 8 rfl (by kernel_rfl) (by rfl) ?_
              go_wp2_with fail
              refine ⟨HSX.out _ HB1.out, ?_⟩
              generalize wr.alloc (.cells #[] 5) = W1 at *
              have HOED : Hid (W1.drew.ownsRow wr.heap.size 5 1 (.slice (some ⟨wr.heap.size, 0, none⟩) 0 0) 0 []) := HOE.out
              refine oneU 13 rfl (by kernel_rfl) (by rfl) (wp_append_any _ (.tmp 47) (.tmp 51) 23 (by rfl) wr.heap.size 5 i0 _ 1 1 Tryd.underlying23 hi0 hz0 hz1 hz2 rfl (by omega) (.slice (some ⟨wr.heap.size, 0, none⟩) 0 0) 0 [] (by rfl) HOED.out wr.heap.size (some ⟨gi, 0, none⟩) 64 ci (byts s) (by rfl) HRS.out byts_one (by simp only [maxLen]; omega) (by omega) HB1.out.size ?_)
              intro v5 W5 hown5 hg5 hat5
              have HB5 : Hid (Below wr.heap.size wr W5) := HB1.out.drew.grown hg5 HB1.out.size (fun k hk => by simp [Value.ownBlock] at hk; omega)
              rw [Nat.zero_add, List.nil_append] at hown5
              obtain ⟨g5, c5, cu5, rfl, hc5, hb5, ht5⟩ : ∃ g c cu, v5 = .slice (some ⟨g, 0, none⟩) 64 c ∧ 64 ≤ c ∧ Blk W5 g 5 cu ∧ cu.toList.take 64 = byts s := by
                rcases hown5.2 with ⟨_, h0⟩ | ⟨g, cap, cur, hv, _, hgb, hcc, _, _, hcut⟩
                · omega
                · exact ⟨g, cap, cur, hv, hcc, hgb, by rw [← hcut]⟩
              have HC5 := hide (And.intro hc5 (And.intro hb5 ht5))
              have HS5 := hide (HSX.out W5 HB5.out)
              refine ⟨fun _ => HS5.out, ?_⟩
              clear hown5 hg5 hat5 hc5 hb5 ht5
              simp only [Act.put, List.getElem_toArray, List.getElem_cons_succ, List.getElem_cons_zero, List.setIfInBounds_toArray, List.set_cons_zero, List.set_cons_succ]
              refine oneU 14 rfl (by kernel_rfl) (by rfl) (runU (v := .agg #[.int .i64 ((a : Int) + (j : Int)), .slice (some ⟨g5, 0, none⟩) 64 c5]) (x := W5) (by go_simp) ⟨fun _ => HS5.out, ?_⟩)
              simp only [Act.put, List.getElem_toArray, List.getElem_cons_succ, List.getElem_cons_zero, List.setIfInBounds_toArray, List.set_cons_zero, List.set_cons_succ]
              have HB6 : Hid (Below wr.heap.size wr (W5.alloc (.cells #[.int .i64 ((a : Int) + (j : Int)), .slice (some ⟨g5, 0, none⟩) 64 c5] 98))) := HB5.out.alloc HB5.out.size _
              have HBK6 : Hid (Blk (W5.alloc (.cells #[.int .i64 ((a : Int) + (j : Int)), .slice (some ⟨g5, 0, none⟩) 64 c5] 98)) W5.heap.size 98 #[.int .i64 ((a : Int) + (j : Int)), .slice (some ⟨g5, 0, none⟩) 64 c5]) := Blk.new _ _ _
              have HC6 : Hid (Blk (W5.alloc (.cells #[.int .i64 ((a : Int) + (j : Int)), .slice (some ⟨g5, 0, none⟩) 64 c5] 98)) g5 5 cu5) := HC5.out.2.1.alloc _
              refine oneU 15 rfl (by kernel_rfl) (by rfl) ?_
              go_wp2_with fail
              refine ⟨HSX.out _ HB6.out, ?_⟩
              generalize W5.alloc (.cells #[.int .i64 ((a : Int) + (j : Int)), .slice (some ⟨g5, 0, none⟩) 64 c5] 98) = W6 at *
              have HOW6 : Hid (W6.ownsRow B 98 2 (.slice Aw Rj.wait.length cw) Rj.wait.length ys) := own_keep HOY.out HB6.out
              have hB6 := HB6.out.size
              have hG6 := HBK6.out.lt
              refine oneU 16 rfl (by kernel_rfl) (by rfl) (wp_append_any _ (.tmp 43) (.tmp 54) 93 (by rfl) B 98 q0 _ 2 32 Tryd.underlying93 hq0 hy0 hy1 hy2 rfl (by omega) (.slice Aw Rj.wait.length cw) Rj.wait.length ys (by rfl) HOW6.out W6.heap.size (some ⟨W5.heap.size, 0, none⟩) 1 1 [.int .i64 ((a : Int) + (j : Int)), .slice (some ⟨g5, 0, none⟩) 64 c5] (by rfl) (reads_two hG6 HBK6.out) (by simp [Value.oneCell']) (by simp only [maxLen]; omega) (by omega) (Nat.le_trans HBG.out hB6) ?_)
              intro v7 W7 hown7 hg7 hat7
              obtain ⟨g7, c7, rfl, _, _⟩ := hown7.form (by omega)
              have eaj : ((a + j : Nat) : Int) = (a : Int) + (j : Int) := by omega
              obtain ⟨hp1, hp2⟩ := HIN.out.pushW (W1 := W6) (a := a + j) (c1 := c5) (s := s) hs64 (by rw [HF1.out]; omega) hqb HB6.out HOY.out HYY.out hg7 (by rw [eaj]; exact hown7) HC5.out.1 HC6.out HC5.out.2.2
              have HP1 := hide hp1
              have HP2 := hide hp2
              have HD7 : Hid (Blk W7 r 95 (refCells Rj sv (.slice Aw Rj.wait.length cw) bv)) := (HIN.out.dev.below HB6.out HG.out).grown hg7 HNE.out.symm
              have HR7 : Hid (Blk W7 gr 23 cur) := (HBR.out.below HB6.out HBR.out.lt).grown hg7 HNE2.out.symm
              have HS7 : Hid (W7.cell? ⟨r, 1, none⟩ = some (.slice Aw Rj.wait.length cw) ∧ W7.cell? ⟨gr, j, none⟩ = some (.slice (some ⟨gi, 0, none⟩) 64 ci)) := ⟨HD7.out.cell 1, (HR7.out.cell j).trans HC1.out⟩
              have s7 := HS7.out.1
              have f7 := HD7.out.frozen 1
              refine ⟨fun _ => HS7.out, ?_⟩
              clear hown7 hg7 hat7 hp1 hp2 eaj hB6 hG6
              simp only [Act.put, List.getElem_toArray, List.getElem_cons_succ, List.getElem_cons_zero, List.setIfInBounds_toArray, List.set_cons_zero, List.set_cons_succ]
              refine oneU 17 rfl (by kernel_rfl) (by rfl) (runU (v := .pointer (some ⟨r, 0, none⟩)) (x := W7) (by go_simp) ⟨fun _ => HS7.out, ?_⟩)
              simp only [Act.put, List.getElem_toArray, List.getElem_cons_succ, List.getElem_cons_zero, List.setIfInBounds_toArray, List.set_cons_zero, List.set_cons_succ]
              refine oneU 18 rfl (by kernel_rfl) (by rfl) (runU (v := .pointer (some ⟨r, 1, none⟩)) (x := W7) (by go_simp) ⟨fun _ => HS7.out, ?_⟩)
              simp only [Act.put, List.getElem_toArray, List.getElem_cons_succ, List.getElem_cons_zero, List.setIfInBounds_toArray, List.set_cons_zero, List.set_cons_succ]
              refine oneU 19 rfl (by kernel_rfl) (by rfl) ?_
              go_wp2_with fail
              refine doneU (by kernel_rfl) ?_ _
              clear s7 f7
              have HK7 := hide (HKJ.out.trans HP2.out)
              clear hwr
              go_wp2
              go_roundw
              case rel => exact ⟨j + 1, by omega, by go_num, by rw [HTK.out]; exact ⟨_, _, _, HP1.out⟩, HK7.out⟩
              case measure => simp [intOf]; omega
            · obtain rfl : j = ls.length := by omega
              rw [List.take_length] at hin
              have HIN := hide hin
              clear hin hk
              go_wp2
              go_ret
              exact ⟨by rw [HC0.out]; rfl, by rw [HW2.out]; exact ⟨_, _, _, HIN.out⟩, HKJ.out⟩
        · have HW2 := hide HW.out
          rw [if_neg hc0] at HW2
          have hne : (codeR R != 0) = true := by simpa using hc0
          clear hc0 HW
          generalize hcd : codeR R = cd at *
          have HCD := hide hcd
          clear hcd
          go_wp2
          go_ret
          exact ⟨by rw [HCD.out]; rfl, by rw [HW2.out]; exact HD.out, HK.out⟩
theorem rwrite_any (W : World) (B r : Nat) (R : RS) (h : RefAt W B r R) (hn : R.n < 1048576) (at_ : Int) (ls : List (List UInt8)) (A : Option Addr) (n c : Nat) (hn2 : n = ls.length) (hq : R.wait.length + ls.length ≤ 1048576) (h64 : All64 ls) (hA : RowsBlk W A ls) :
    Calls Tryd.prog 32 #[.pointer (some ⟨r, 0, none⟩), .int .i64 at_, .slice A n c] W fun e W' => e = .returned (.int .i64 (writeCodeR R at_ ls)) ∧ RefAt W' B r (writeToR R at_ ls) ∧ RKeep B W W' :=
  (rwrite_keep W B r R h hn at_ ls A n c hn2 hq h64 hA).mono fun _ _ h => ⟨h.1, h.2.1, RKeep.ofW h.2.2⟩
end Go.Proofs.YtenhjnicadjbaaaDoor
