/-
  The walk of lru's Get. Condition: the cache lies as its state says.
-/
import Derived.Test.YtjijdpdbkpknpaaLruPeek
import Derived.Deep.Onto
namespace Go.Proofs.Ytjijdpdbkpknpaa
open Go Go.RowKit

def bal (sh : Nat) : List Hd → List Hd → List Hd × List Hd
  | [], t => (t, [])
  | x :: r, t => if sumC (x :: r) ≤ sh then (t, x :: r) else bal sh r (t ++ [x])
theorem bal_done {sh : Nat} : ∀ {r t : List Hd}, sumC r ≤ sh → bal sh r t = (t, r)
  | [], _, _ => rfl
  | x :: r, t, h => by unfold bal; rw [if_pos h]
theorem bal_step {sh : Nat} {x : Hd} {r t : List Hd} (h : sh < sumC (x :: r)) : bal sh (x :: r) t = bal sh r (t ++ [x]) := by
  rw [bal, if_neg (by omega)]
def getS (S : CS) (k : ByteArray) : CS × Option Hd :=
  if has k S.trial then match getK k S.trial with
    | some h => ({ S with trial := (bal S.share (S.rest ++ [h]) (del k S.trial)).1, rest := (bal S.share (S.rest ++ [h]) (del k S.trial)).2 }, some h)
    | none => (S, none)
  else match getK k S.rest with
    | some h => ({ S with trial := (bal S.share (del k S.rest ++ [h]) S.trial).1, rest := (bal S.share (del k S.rest ++ [h]) S.trial).2 }, some h)
    | none => (S, none)

/-- what comes out lies outside of what the cache has become -/
def GetPostX (W : World) (M : Nat → Prop) (g : Nat) (S : CS) (k : ByteArray) (e : Ending) (W' : World) : Prop :=
  ∃ M', CacheAt W' M' g (getS S k).1 ∧ (∀ q, M' q → M q ∨ W.heap.size ≤ q) ∧ Fr M W W' ∧ ∃ l', e = .returned (.tuple #[.agg (hcs ((getS S k).2.getD zh) l').toArray, .bool (getS S k).2.isSome]) ∧ HeldD W' (fun q => W.heap.size ≤ q ∧ q < W'.heap.size ∧ ¬ M' q) ((getS S k).2.getD zh) l' ∧ ReadsT W' (fun q => W.heap.size ≤ q ∧ ¬ M' q) 1 l'.ay ((getS S k).2.getD zh).bytes.length (byts ((getS S k).2.getD zh).bytes)
def GetPost (W : World) (M : Nat → Prop) (g : Nat) (S : CS) (k : ByteArray) (e : Ending) (W' : World) : Prop := Given W (getS S k).2 e W' ∧ CacheTo W M g (getS S k).1 W'
/-- what the inner loop keeps -/
def BalRel (W : World) (M C : Nat → Prop) (g q0 q9 : Nat) (S : CS) (t0 r0 : List Hd) (h : Hd) (l : Loc) (w : World) : Prop :=
  ∃ M' t r vt vr Xt Xr, CacheIn w M' C g { S with trial := t, rest := r } vt vr Xt Xr ∧ (∀ q, M' q → M q ∨ (W.heap.size ≤ q ∧ q ≠ q0 ∧ q ≠ q9)) ∧ Fr M W w ∧ ((h, l) ∈ Xt ∨ (h, l) ∈ Xr) ∧ Blk w q0 40 heldZero ∧ Blk w q9 40 (hcs h l).toArray ∧
    bal S.share r0 t0 = bal S.share r t ∧ t.length + r.length = t0.length + r0.length
def restLen (g : Nat) (w : World) : Nat := vlen ((w.cell? ⟨g, 4, none⟩).getD undef)
theorem CacheIn.restLen {W : World} {M C : Nat → Prop} {g : Nat} {S : CS} {vt vr : Value} {Xt Xr : List (Hd × Loc)} (H : CacheIn W M C g S vt vr Xt Xr) : restLen g W = S.rest.length := by
  unfold Proofs.Ytjijdpdbkpknpaa.restLen
  rw [show W.cell? ⟨g, 4, none⟩ = some vr from H.blk.cell 4]
  show vlen vr = _
  rw [own_vlen H.rr, H.len.2]

set_option maxRecDepth 100000 in
set_option maxHeartbeats 2000000 in
theorem get_anyX {W : World} {M : Nat → Prop} {g : Nat} {S : CS} (k : ByteArray) (HC : CacheAt W M g S) (hn : S.trial.length + S.rest.length < 1000) :
    Calls Try.prog 12 #[.pointer (some ⟨g, 0, none⟩), .string k] W (GetPostX W M g S k) := by
  obtain ⟨C, vt, vr, Xt, Xr, H⟩ := HC
  have HLOW := hide H.low
  have hz := fun W' => zero_held W'
  have HB1 : Hid (Below W.heap.size W (W.alloc (.cells heldZero 40)) ∧ (W.alloc (.cells heldZero 40)).heap.size = W.heap.size + 1) := ⟨(Below.refl _ _).alloc (Nat.le_refl _) _, by simp⟩
  have HBB : Hid (Blk (W.alloc (.cells heldZero 40)) W.heap.size 40 heldZero) := Blk.new _ _ _
  obtain ⟨W1, hA1⟩ : ∃ W1, W.alloc (.cells heldZero 40) = W1 := ⟨_, rfl⟩
  rw [hA1] at HB1 HBB
  have HC1 := hide (H.lift HB1.out.1)
  have HSG := hide (segs_any W1 g)
  clear H
  go_enter Try.func12, Try.ntmps12
  go_wp2_with fail
  clear hA1 hz
  refine (unhide HSG).mono ?_
  rintro e W2 ⟨qs, rfl, hqs, hsb, hb2⟩
  have HR0 : Hid (PeekRel W M C g W.heap.size qs S W2) := ⟨⟨vt, vr, Xt, Xr, HC1.out.lift hb2⟩, HBB.out.below hb2 HBB.out.lt, hsb, HB1.out.1.trans (hb2.mono (by have := HB1.out.2; omega))⟩
  have hqs2 : W.heap.size ≤ qs := by have := HB1.out.2; omega
  clear hsb hb2 HC1 HBB HSG HB1
  obtain ⟨q0, hq0⟩ : ∃ q0, q0 = W.heap.size := ⟨_, rfl⟩
  have HQ0 := hide hq0
  rw [← hq0] at HR0
  have hq0le : W.heap.size ≤ q0 := by omega
  rw [← hq0]
  clear hq0
  go_wp2_with fail
  go_loopw [13] (fun i wr => ∃ j : Nat, j ≤ 2 ∧ i = .int .i64 j ∧ PeekRel W M C g q0 qs S wr ∧ Nos S k j) (fun i _ => 2 - (intOf i).toNat)
  case atStart => exact ⟨0, by omega, rfl, HR0.out, fun h => absurd h (by omega), fun h => absurd h (by omega)⟩
  case round =>
    clear HR0
    obtain ⟨j, hj, rfl, hpr, hn1⟩ := hrel
    have HN := hide hn1
    have HPR := hide hpr
    obtain ⟨⟨vt1, vr1, Xt1, Xr1, hc1⟩, hbx, hsg, hbe⟩ := hpr
    have s0 : wr.cell? ⟨qs, 0, none⟩ = some (.pointer (some ⟨g, 2, none⟩)) := hsg.cell 0
    have s1 : wr.cell? ⟨qs, 1, none⟩ = some (.pointer (some ⟨g, 4, none⟩)) := hsg.cell 1
    have HC := hide hc1
    have HBX := hide hbx
    have hsz := hbe.size
    clear hc1 hbx hsg hn1 hbe
    match j, hj with
    | 0, _ =>
      have HFI := hide (find_trial HC.out k)
      have hlen := HC.out.len.1
      cases hhas : has k S.trial with
      | true =>
        rw [idx_yes hhas] at HFI
        obtain ⟨a, hat⟩ : ∃ a, atK k S.trial = a := ⟨_, rfl⟩
        rw [hat] at HFI
        have hlt : a < Xt1.length := by have := of_decide_eq_true hhas; omega
        obtain ⟨h, l, HPL, hxa, HOK⟩ : ∃ h l, Hid (∀ X, Below wr.heap.size wr X → Calls Try.prog 40 #[.pointer (some ⟨g, 2, none⟩), .int .i64 (a : Int)] X (Pull2 X M C g S vr1 Xt1 Xr1 a h l)) ∧ S.trial[a]? = some h ∧ Hid h.ok := by
          refine ⟨Xt1[a].1, Xt1[a].2, fun X hX => pull_trial (HC.out.lift hX) _ hlt, ?_, ?_⟩
          · rw [List.getElem?_eq_getElem (by omega), ← hds_get Xt1 a hlt]
            simp only [HC.out.xt]
          · have : Xt1[a].1 ∈ S.trial := by rw [← HC.out.xt]; exact List.mem_map_of_mem (List.getElem_mem hlt)
            exact HC.out.ok.2.2.2 _ (List.mem_append_left _ this)
        have HGE : Hid (getS S k = ({ S with trial := (bal S.share (S.rest ++ [h]) (S.trial.eraseIdx a)).1, rest := (bal S.share (S.rest ++ [h]) (S.trial.eraseIdx a)).2 }, some h)) := by
          show _ = _
          unfold getS getK del
          rw [if_pos hhas, hat, hxa]
        have hle : (S.trial.eraseIdx a).length + 1 = S.trial.length := by rw [List.length_eraseIdx_of_lt (by omega)]; omega
        clear hhas hlt hlen hat hxa
        go_wp2_with fail
        refine (unhide HFI).mono ?_
        rintro e w1 ⟨rfl, hb1⟩
        have HB1 := hide hb1
        clear hb1 HFI
        go_wp2_with fail
        refine (HPL.out w1 HB1.out).mono ?_
        rintro e w2 ⟨rfl, ⟨vt2, hc2⟩, hf2, hh2⟩
        have HC2 := hide hc2
        have HF2 := hide hf2
        have HH2 := hide hh2
        clear hc2 hf2 hh2 HPL
        have hz := fun W' => zero_held W'
        have hsc := cells_held_new w2 h l
        have HW3 : Hid (Below w2.heap.size w2 (w2.alloc (.cells (hcs h l).toArray 40)) ∧ (w2.alloc (.cells (hcs h l).toArray 40)).heap.size = w2.heap.size + 1) := ⟨(Below.refl _ _).alloc (Nat.le_refl _) _, by simp⟩
        have HHB : Hid (Blk (w2.alloc (.cells (hcs h l).toArray 40)) w2.heap.size 40 (hcs h l).toArray) := Blk.new _ _ _
        generalize w2.alloc (.cells (hcs h l).toArray 40) = w3 at *
        go_wp2_with fail
        clear hz hsc
        refine region_tail 4 (by kernel_rfl) (by kernel_rfl) ?_
        intro Y hY
        have HWY : Hid (Below w3.heap.size w3 Y ∧ Y.heap.size = w3.heap.size) := by rw [hY]; exact ⟨(Below.refl _ _).drew, rfl⟩
        clear hY
        have HCY := hide ((HC2.out.lift HW3.out.1).lift HWY.out.1)
        have HHY : Hid (HeldD Y C h l) := (HH2.out.fr (Fr.of_below HW3.out.1 (fun _ => False)) (fun _ _ => id)).fr (Fr.of_below HWY.out.1 (fun _ => False)) (fun _ _ => id)
        have HPS := hide (push_rest HCY.out h l HHY.out HOK.out (by show (S.trial.eraseIdx a).length + S.rest.length < 1000; omega))
        have HLY := hide (load_held_blk Y w2.heap.size _ h l (HHB.out.below HWY.out.1 HHB.out.lt))
        simp only [List.take_succ_cons, List.take_zero, List.drop_succ_cons, List.drop_zero]
        still_step
        still_step
        still_step
        refine wpStill_load rfl 40 (.tmp 9) rfl rfl HLY.out ?_
        simp only [Act.put, List.setIfInBounds_toArray, List.set_cons_zero, List.set_cons_succ]
        refine wpStill_nil ?_
        go_wp2_with fail
        refine (unhide HPS).mono ?_
        rintro e w4 ⟨rfl, ⟨vx, hc4⟩, hf4⟩
        have hq0w : q0 < wr.heap.size := HBX.out.lt
        have h12 := HB1.out.size
        have h22 := HF2.out.size
        have hyy := HWY.out.2
        have h33 := HW3.out.2
        have HBR : Hid (BalRel W M C g q0 w2.heap.size S (S.trial.eraseIdx a) (S.rest ++ [h]) h l w4) := by
          have hfw2 : Fr M W w2 := ((Fr.of_below HPR.out.2.2.2 M).trans (Fr.of_below HB1.out M) (fun _ _ e => e)).trans HF2.out (fun _ _ e => e)
          have hfy : Fr M W Y := (hfw2.trans (Fr.of_below HW3.out.1 M) (fun _ _ e => e)).trans (Fr.of_below HWY.out.1 M) (fun _ _ e => e)
          have hb0 : Blk Y q0 40 heldZero := by
            have a1 := HBX.out.below HB1.out hq0w
            have a2 := HF2.out.blk a1 (fun e => by have := HLOW.out _ e; omega)
            have a3 := a2.below HW3.out.1 a2.lt
            exact a3.below HWY.out.1 a3.lt
          have hb9 : Blk Y w2.heap.size 40 (hcs h l).toArray := HHB.out.below HWY.out.1 HHB.out.lt
          refine ⟨_, _, _, _, _, _, _, hc4, fun q hq => ?_, hfy.trans hf4 (fun _ _ e => e), .inr (List.mem_append_right _ (List.mem_singleton_self _)), hf4.blk hb0 (fun e => by have := HLOW.out _ e; omega), hf4.blk hb9 (fun e => by have := HLOW.out _ e; omega), rfl, rfl⟩
          rcases hq with hq | hq
          · exact .inl hq
          · exact .inr ⟨by omega, by omega, by omega⟩
        have hq9 : W.heap.size ≤ w2.heap.size := by omega
        clear hc4 hf4 HPS HLY HHY HCY HHB HC2 HF2 HH2 HW3 HWY HB1 HPR HBX HC HN s0 s1 hyy h33
        generalize w2.heap.size = q9 at *
        go_wp2_with fail
        go_loopw [] (fun w5 => BalRel W M C g q0 q9 S (S.trial.eraseIdx a) (S.rest ++ [h]) h l w5) (fun w5 => restLen g w5)
        case atStart => exact HBR.out
        case round =>
          clear HBR
          obtain ⟨M5, t, r, vt5, vr5, Xt5, Xr5, hin, hM5, hf5, hmem, hb0, hb9, hbal, htot⟩ := hrel
          have HIN := hide hin
          have HM5 := hide hM5
          have HF5 := hide hf5
          have HMEM := hide hmem
          have HZB := hide hb0
          have HB9 := hide hb9
          have HBAL := hide hbal
          have c1 : wr.cell? ⟨g, 1, none⟩ = some (.int .i64 (S.share : Int)) := hin.blk.cell 1
          have c5 : wr.cell? ⟨g, 5, none⟩ = some (.int .i64 (sumC r : Int)) := hin.blk.cell 5
          have HRL : Hid (restLen g wr = r.length) := hin.restLen
          have hsz5 := hf5.size
          have HXR := hide hin.xr
          have htot2 : t.length + r.length < 1000 := by
            rw [List.length_append, List.length_singleton] at htot
            omega
          clear hin hM5 hf5 hmem hb0 hb9 hbal
          by_cases hgt : S.share < sumC r
          · have tgt : decide (S.share < sumC r) = true := by simpa using hgt
            cases r with
            | nil => exact absurd hgt (by simp [sumC])
            | cons x r' =>
              obtain ⟨lx, X0, rfl⟩ : ∃ lx X0, Xr5 = (x, lx) :: X0 := by
                match Xr5, HXR.out with
                | (y, lx) :: X0, e =>
                  have e' : y :: hds X0 = x :: r' := e
                  injection e' with e1 e2
                  exact ⟨lx, X0, by rw [e1]⟩
              have HOKX : Hid x.ok := HIN.out.ok.2.2.2 x (List.mem_append_right _ List.mem_cons_self)
              have HST := hide (bal_step (t := t) hgt)
              have HPLX : Hid (∀ X, Below wr.heap.size wr X → Calls Try.prog 40 #[.pointer (some ⟨g, 4, none⟩), .int .i64 0] X (Pull4 X M5 C g { S with trial := t, rest := x :: r' } vt5 Xt5 ((x, lx) :: X0) 0 x lx)) := fun X hX => pull_rest (HIN.out.lift hX) 0 (by simp)
              have hlr : t.length + r'.length < 999 := by simp at htot2; omega
              have HTOT := hide htot
              clear hgt HXR htot htot2
              go_wp2_with fail
              go_quiet (fail)
              go_wp2_with fail
              have HBX5 : Hid (Below wr.heap.size wr (wr.drewN nq).drew) := (below_drewN (Below.refl _ _) nq).drew
              clear c1 c5
              go_region_with (first
                | (go_at_call 40; refine (HPLX.out _ HBX5.out).mono ?_; rintro e w6 ⟨rfl, ⟨vr6, hc6⟩, hf6, hh6⟩; have HC6 := hide hc6; have HF6 := hide hf6; have HPS6 := hide (push_trial hc6 x lx hh6 HOKX.out (by show t.length + r'.length < 1000; omega)); clear hc6 hf6 hh6)
                | (go_at_call 41; refine (unhide HPS6).mono ?_; rintro e w7 ⟨rfl, ⟨vt7, hc7⟩, hf7⟩; have HC7 := hide hc7; have HF7 := hide hf7; clear hc7 hf7))
              all_goals
                have HFA : Hid (Fr M5 wr w7) := ((Fr.of_below HBX5.out M5).trans HF6.out (fun _ _ e => e)).trans HF7.out (fun _ _ e => e)
                have hs6 : wr.heap.size ≤ w6.heap.size := Nat.le_trans HBX5.out.size HF6.out.size
                have HNQ : Hid (¬ M5 q0 ∧ ¬ M5 q9) := ⟨fun e => by
                  rcases HM5.out _ e with e | e
                  · have := HLOW.out _ e; omega
                  · exact e.2.1 rfl, fun e => by
                  rcases HM5.out _ e with e | e
                  · have := HLOW.out _ e; omega
                  · exact e.2.2 rfl⟩
                have HNEW : Hid (BalRel W M C g q0 q9 S (S.trial.eraseIdx a) (S.rest ++ [h]) h l w7) := by
                  refine ⟨grow M5 w6 w7, t ++ [x], r', vt7, vr6, _, _, HC7.out, fun q hq => ?_, HF5.out.trans HFA.out (fun q hq e => ?_), ?_, HFA.out.blk HZB.out HNQ.out.1, HFA.out.blk HB9.out HNQ.out.2, HBAL.out.trans HST.out, ?_⟩
                  · rcases hq with hq | hq
                    · exact HM5.out q hq
                    · have := HZB.out.lt
                      have := HB9.out.lt
                      exact .inr ⟨by omega, by omega, by omega⟩
                  · rcases HM5.out q e with e | e
                    · exact e
                    · omega
                  · rcases HMEM.out with e | e
                    · exact .inl (List.mem_append_left _ e)
                    · rcases List.mem_cons.1 e with e | e
                      · exact .inl (List.mem_append_right _ (by rw [e]; exact List.mem_singleton_self _))
                      · exact .inr e
                  · have := HTOT.out
                    rw [List.length_cons] at this
                    rw [List.length_append, List.length_singleton]
                    omega
                have HME : Hid (restLen g w7 < restLen g wr) := by
                  show _ < _
                  rw [HRL.out, HC7.out.restLen]
                  show r'.length < (x :: r').length
                  simp
                clear HC6 HF6 HPS6 HC7 HF7 HFA HBAL HST HTOT HMEM HPLX HNQ HM5 HF5 HZB HB9 HRL HIN HBX5
                go_wp2
                go_roundw
                case rel => exact HNEW.out
                case measure => exact HME.out
          · have tgt : decide (S.share < sumC r) = false := by simpa using hgt
            have HDN : Hid (getS S k = ({ S with trial := t, rest := r }, some h)) := by
              have e := HGE.out
              rw [HBAL.out, bal_done (by omega)] at e
              exact e
            have HNQ : Hid (¬ M5 q0) := fun e => by
                  rcases HM5.out _ e with e | e
                  · have := HLOW.out _ e; omega
                  · exact e.2.1 rfl
            clear hgt HXR htot htot2
            go_wp2_with fail
            go_quiet (fail)
            have HBX5 : Hid (Below wr.heap.size wr (wr.drewN nq)) := below_drewN (Below.refl _ _) nq
            have HLD := hide (load_held_blk (wr.drewN nq) q9 _ h l (HB9.out.drewN nq))
            have HHH : Hid (HeldD (wr.drewN nq) C h l) := by
              have hh := HIN.out.lift HBX5.out
              rcases HMEM.out with e | e
              · exact hh.ct _ e
              · exact hh.cr _ e
            have HCP := hide (copied_anyT (wr.drewN nq) h l C HHH.out (fun q hq => (HIN.out.lift HBX5.out).low q (HIN.out.cm q hq).1) ⟨HOK.out.1, HOK.out.2.1, HOK.out.2.2.1, HOK.out.2.2.2.1⟩)
            clear c1 c5
            go_wp2_with (with_reducible refine wpList_load_run rfl 40 (.tmp 9) rfl HLD.out rfl ?_)
            refine (unhide HCP).mono ?_
            rintro e w8 ⟨l', rfl, hh8, hb8, ht8⟩
            have HB8 : Hid (Below wr.heap.size wr w8) := HBX5.out.trans (hb8.mono HBX5.out.size)
            have hzb : Blk w8 q0 40 heldZero := HZB.out.below HB8.out HZB.out.lt
            have hst := cells_held_blk w8 q0 _ _ h l' hzb rfl
            have HB7 : Hid (Blk (w8.setRow q0 (hcs h l').toArray) q0 40 (hcs h l').toArray) := hzb.setRow _
            have hf7 : Fr (fun q => some q0 = some q) w8 (w8.setRow q0 (hcs h l').toArray) := Fr.of_grown (grown_setRow _ _ _)
            have hq05 := HZB.out.lt
            have hsd := HBX5.out.size
            have HH7 : Hid (HeldD (w8.setRow q0 (hcs h l').toArray) (fun q => W.heap.size ≤ q ∧ q < (w8.setRow q0 (hcs h l').toArray).heap.size ∧ ¬ M5 q) h l') := (hh8.weak (D' := fun q => (wr.drewN nq).heap.size + 2 ≤ q ∧ q < (w8.setRow q0 (hcs h l').toArray).heap.size) (fun q hq => ⟨hq.1, by have := hf7.size; omega⟩)).fr hf7 (fun q hq e => by injection e with e; omega) |>.weak (fun q hq => ⟨by omega, hq.2, fun e => by have := (HIN.out.lift HBX5.out).low q e; omega⟩)
            have HT7 : Hid (ReadsT (w8.setRow q0 (hcs h l').toArray) (fun q => W.heap.size ≤ q ∧ ¬ M5 q) 1 l'.ay h.bytes.length (byts h.bytes)) := (ht8.fr hf7 (fun q hq e => by injection e with e; omega)).weak (fun q hq => ⟨by omega, fun e => by have := (HIN.out.lift HBX5.out).low q e; omega⟩)
            have HCF : Hid (CacheIn (w8.setRow q0 (hcs h l').toArray) M5 C g { S with trial := t, rest := r } vt5 vr5 Xt5 Xr5) := (HIN.out.lift HB8.out).same (hf7.same (fun q hq => ⟨(HIN.out.lift HB8.out).low q hq, fun e => HNQ.out (by injection e with e; rw [e]; exact hq)⟩)) hf7.size
            have HFF : Hid (Fr M W (w8.setRow q0 (hcs h l').toArray)) := (HF5.out.trans (Fr.of_below HB8.out M) (fun _ _ e => e)).trans hf7 (fun q hq e => by injection e with e; omega)
            clear hzb hf7 hh8 hb8 ht8 HCP HLD HHH HB8 HBX5 tgt
            go_wp2_with fail
            clear hst
            generalize w8.setRow q0 (hcs h l').toArray = W7 at *
            refine bodyPost_ret (results_cell_tmp Try.results12 (load_var_blk W7 _ _ h l' HB7.out) rfl) rfl ?_
            unfold GetPostX
            rw [HDN.out]
            exact ⟨M5, ⟨C, vt5, vr5, Xt5, Xr5, HCF.out⟩, fun q hq => (by
              rcases HM5.out q hq with e | e
              · exact .inl e
              · exact .inr e.1), HFF.out, l', rfl, HH7.out, HT7.out⟩
      | false =>
        rw [idx_no hhas] at HFI
        have HHAS : Hid (Nos S k 1) := ⟨fun _ => hhas, fun h => absurd h (by omega)⟩
        clear hhas hlen
        go_wp2_with fail
        refine (unhide HFI).mono ?_
        rintro e w1 ⟨rfl, hb1⟩
        have HP1 := hide (HPR.out.lift hb1)
        clear hb1 HFI
        go_wp2
        go_roundw
        case rel => exact ⟨1, by omega, rfl, HP1.out, HHAS.out⟩
        case measure => simp [intOf]
    | 1, _ =>
      have HFI := hide (find_rest HC.out k)
      have hlen := HC.out.len.2
      cases hhas : has k S.rest with
      | true =>
        rw [idx_yes hhas] at HFI
        obtain ⟨a, hat⟩ : ∃ a, atK k S.rest = a := ⟨_, rfl⟩
        rw [hat] at HFI
        have hlt : a < Xr1.length := by have := of_decide_eq_true hhas; omega
        obtain ⟨h, l, HPL, hxa, HOK⟩ : ∃ h l, Hid (∀ X, Below wr.heap.size wr X → Calls Try.prog 40 #[.pointer (some ⟨g, 4, none⟩), .int .i64 (a : Int)] X (Pull4 X M C g S vt1 Xt1 Xr1 a h l)) ∧ S.rest[a]? = some h ∧ Hid h.ok := by
          refine ⟨Xr1[a].1, Xr1[a].2, fun X hX => pull_rest (HC.out.lift hX) _ hlt, ?_, ?_⟩
          · rw [List.getElem?_eq_getElem (by omega), ← hds_get Xr1 a hlt]
            simp only [HC.out.xr]
          · have : Xr1[a].1 ∈ S.rest := by rw [← HC.out.xr]; exact List.mem_map_of_mem (List.getElem_mem hlt)
            exact HC.out.ok.2.2.2 _ (List.mem_append_right _ this)
        have HGE : Hid (getS S k = ({ S with trial := (bal S.share (S.rest.eraseIdx a ++ [h]) S.trial).1, rest := (bal S.share (S.rest.eraseIdx a ++ [h]) S.trial).2 }, some h)) := by
          show _ = _
          unfold getS getK del
          rw [if_neg (by rw [HN.out.1 (by omega)]; simp), hat, hxa]
        have hle : (S.rest.eraseIdx a).length + 1 = S.rest.length := by rw [List.length_eraseIdx_of_lt (by omega)]; omega
        clear hhas hlt hlen hat hxa
        go_wp2_with fail
        refine (unhide HFI).mono ?_
        rintro e w1 ⟨rfl, hb1⟩
        have HB1 := hide hb1
        clear hb1 HFI
        go_wp2_with fail
        refine (HPL.out w1 HB1.out).mono ?_
        rintro e w2 ⟨rfl, ⟨vt2, hc2⟩, hf2, hh2⟩
        have HC2 := hide hc2
        have HF2 := hide hf2
        have HH2 := hide hh2
        clear hc2 hf2 hh2 HPL
        have hz := fun W' => zero_held W'
        have hsc := cells_held_new w2 h l
        have HW3 : Hid (Below w2.heap.size w2 (w2.alloc (.cells (hcs h l).toArray 40)) ∧ (w2.alloc (.cells (hcs h l).toArray 40)).heap.size = w2.heap.size + 1) := ⟨(Below.refl _ _).alloc (Nat.le_refl _) _, by simp⟩
        have HHB : Hid (Blk (w2.alloc (.cells (hcs h l).toArray 40)) w2.heap.size 40 (hcs h l).toArray) := Blk.new _ _ _
        generalize w2.alloc (.cells (hcs h l).toArray 40) = w3 at *
        go_wp2_with fail
        clear hz hsc
        refine region_tail 4 (by kernel_rfl) (by kernel_rfl) ?_
        intro Y hY
        have HWY : Hid (Below w3.heap.size w3 Y ∧ Y.heap.size = w3.heap.size) := by rw [hY]; exact ⟨(Below.refl _ _).drew, rfl⟩
        clear hY
        have HCY := hide ((HC2.out.lift HW3.out.1).lift HWY.out.1)
        have HHY : Hid (HeldD Y C h l) := (HH2.out.fr (Fr.of_below HW3.out.1 (fun _ => False)) (fun _ _ => id)).fr (Fr.of_below HWY.out.1 (fun _ => False)) (fun _ _ => id)
        have HPS := hide (push_rest HCY.out h l HHY.out HOK.out (by show S.trial.length + (S.rest.eraseIdx a).length < 1000; omega))
        have HLY := hide (load_held_blk Y w2.heap.size _ h l (HHB.out.below HWY.out.1 HHB.out.lt))
        simp only [List.take_succ_cons, List.take_zero, List.drop_succ_cons, List.drop_zero]
        still_step
        still_step
        still_step
        refine wpStill_load rfl 40 (.tmp 9) rfl rfl HLY.out ?_
        simp only [Act.put, List.setIfInBounds_toArray, List.set_cons_zero, List.set_cons_succ]
        refine wpStill_nil ?_
        go_wp2_with fail
        refine (unhide HPS).mono ?_
        rintro e w4 ⟨rfl, ⟨vx, hc4⟩, hf4⟩
        have hq0w : q0 < wr.heap.size := HBX.out.lt
        have h12 := HB1.out.size
        have h22 := HF2.out.size
        have hyy := HWY.out.2
        have h33 := HW3.out.2
        have HBR : Hid (BalRel W M C g q0 w2.heap.size S S.trial (S.rest.eraseIdx a ++ [h]) h l w4) := by
          have hfw2 : Fr M W w2 := ((Fr.of_below HPR.out.2.2.2 M).trans (Fr.of_below HB1.out M) (fun _ _ e => e)).trans HF2.out (fun _ _ e => e)
          have hfy : Fr M W Y := (hfw2.trans (Fr.of_below HW3.out.1 M) (fun _ _ e => e)).trans (Fr.of_below HWY.out.1 M) (fun _ _ e => e)
          have hb0 : Blk Y q0 40 heldZero := by
            have a1 := HBX.out.below HB1.out hq0w
            have a2 := HF2.out.blk a1 (fun e => by have := HLOW.out _ e; omega)
            have a3 := a2.below HW3.out.1 a2.lt
            exact a3.below HWY.out.1 a3.lt
          have hb9 : Blk Y w2.heap.size 40 (hcs h l).toArray := HHB.out.below HWY.out.1 HHB.out.lt
          refine ⟨_, _, _, _, _, _, _, hc4, fun q hq => ?_, hfy.trans hf4 (fun _ _ e => e), .inr (List.mem_append_right _ (List.mem_singleton_self _)), hf4.blk hb0 (fun e => by have := HLOW.out _ e; omega), hf4.blk hb9 (fun e => by have := HLOW.out _ e; omega), rfl, rfl⟩
          rcases hq with hq | hq
          · exact .inl hq
          · exact .inr ⟨by omega, by omega, by omega⟩
        have hq9 : W.heap.size ≤ w2.heap.size := by omega
        clear hc4 hf4 HPS HLY HHY HCY HHB HC2 HF2 HH2 HW3 HWY HB1 HPR HBX HC HN s0 s1 hyy h33
        generalize w2.heap.size = q9 at *
        go_wp2_with fail
        go_loopw [] (fun w5 => BalRel W M C g q0 q9 S S.trial (S.rest.eraseIdx a ++ [h]) h l w5) (fun w5 => restLen g w5)
        case atStart => exact HBR.out
        case round =>
          clear HBR
          obtain ⟨M5, t, r, vt5, vr5, Xt5, Xr5, hin, hM5, hf5, hmem, hb0, hb9, hbal, htot⟩ := hrel
          have HIN := hide hin
          have HM5 := hide hM5
          have HF5 := hide hf5
          have HMEM := hide hmem
          have HZB := hide hb0
          have HB9 := hide hb9
          have HBAL := hide hbal
          have c1 : wr.cell? ⟨g, 1, none⟩ = some (.int .i64 (S.share : Int)) := hin.blk.cell 1
          have c5 : wr.cell? ⟨g, 5, none⟩ = some (.int .i64 (sumC r : Int)) := hin.blk.cell 5
          have HRL : Hid (restLen g wr = r.length) := hin.restLen
          have hsz5 := hf5.size
          have HXR := hide hin.xr
          have htot2 : t.length + r.length < 1000 := by
            rw [List.length_append, List.length_singleton] at htot
            omega
          clear hin hM5 hf5 hmem hb0 hb9 hbal
          by_cases hgt : S.share < sumC r
          · have tgt : decide (S.share < sumC r) = true := by simpa using hgt
            cases r with
            | nil => exact absurd hgt (by simp [sumC])
            | cons x r' =>
              obtain ⟨lx, X0, rfl⟩ : ∃ lx X0, Xr5 = (x, lx) :: X0 := by
                match Xr5, HXR.out with
                | (y, lx) :: X0, e =>
                  have e' : y :: hds X0 = x :: r' := e
                  injection e' with e1 e2
                  exact ⟨lx, X0, by rw [e1]⟩
              have HOKX : Hid x.ok := HIN.out.ok.2.2.2 x (List.mem_append_right _ List.mem_cons_self)
              have HST := hide (bal_step (t := t) hgt)
              have HPLX : Hid (∀ X, Below wr.heap.size wr X → Calls Try.prog 40 #[.pointer (some ⟨g, 4, none⟩), .int .i64 0] X (Pull4 X M5 C g { S with trial := t, rest := x :: r' } vt5 Xt5 ((x, lx) :: X0) 0 x lx)) := fun X hX => pull_rest (HIN.out.lift hX) 0 (by simp)
              have hlr : t.length + r'.length < 999 := by simp at htot2; omega
              have HTOT := hide htot
              clear hgt HXR htot htot2
              go_wp2_with fail
              go_quiet (fail)
              go_wp2_with fail
              have HBX5 : Hid (Below wr.heap.size wr (wr.drewN nq).drew) := (below_drewN (Below.refl _ _) nq).drew
              clear c1 c5
              go_region_with (first
                | (go_at_call 40; refine (HPLX.out _ HBX5.out).mono ?_; rintro e w6 ⟨rfl, ⟨vr6, hc6⟩, hf6, hh6⟩; have HC6 := hide hc6; have HF6 := hide hf6; have HPS6 := hide (push_trial hc6 x lx hh6 HOKX.out (by show t.length + r'.length < 1000; omega)); clear hc6 hf6 hh6)
                | (go_at_call 41; refine (unhide HPS6).mono ?_; rintro e w7 ⟨rfl, ⟨vt7, hc7⟩, hf7⟩; have HC7 := hide hc7; have HF7 := hide hf7; clear hc7 hf7))
              all_goals
                have HFA : Hid (Fr M5 wr w7) := ((Fr.of_below HBX5.out M5).trans HF6.out (fun _ _ e => e)).trans HF7.out (fun _ _ e => e)
                have hs6 : wr.heap.size ≤ w6.heap.size := Nat.le_trans HBX5.out.size HF6.out.size
                have HNQ : Hid (¬ M5 q0 ∧ ¬ M5 q9) := ⟨fun e => by
                  rcases HM5.out _ e with e | e
                  · have := HLOW.out _ e; omega
                  · exact e.2.1 rfl, fun e => by
                  rcases HM5.out _ e with e | e
                  · have := HLOW.out _ e; omega
                  · exact e.2.2 rfl⟩
                have HNEW : Hid (BalRel W M C g q0 q9 S S.trial (S.rest.eraseIdx a ++ [h]) h l w7) := by
                  refine ⟨grow M5 w6 w7, t ++ [x], r', vt7, vr6, _, _, HC7.out, fun q hq => ?_, HF5.out.trans HFA.out (fun q hq e => ?_), ?_, HFA.out.blk HZB.out HNQ.out.1, HFA.out.blk HB9.out HNQ.out.2, HBAL.out.trans HST.out, ?_⟩
                  · rcases hq with hq | hq
                    · exact HM5.out q hq
                    · have := HZB.out.lt
                      have := HB9.out.lt
                      exact .inr ⟨by omega, by omega, by omega⟩
                  · rcases HM5.out q e with e | e
                    · exact e
                    · omega
                  · rcases HMEM.out with e | e
                    · exact .inl (List.mem_append_left _ e)
                    · rcases List.mem_cons.1 e with e | e
                      · exact .inl (List.mem_append_right _ (by rw [e]; exact List.mem_singleton_self _))
                      · exact .inr e
                  · have := HTOT.out
                    rw [List.length_cons] at this
                    rw [List.length_append, List.length_singleton]
                    omega
                have HME : Hid (restLen g w7 < restLen g wr) := by
                  show _ < _
                  rw [HRL.out, HC7.out.restLen]
                  show r'.length < (x :: r').length
                  simp
                clear HC6 HF6 HPS6 HC7 HF7 HFA HBAL HST HTOT HMEM HPLX HNQ HM5 HF5 HZB HB9 HRL HIN HBX5
                go_wp2
                go_roundw
                case rel => exact HNEW.out
                case measure => exact HME.out
          · have tgt : decide (S.share < sumC r) = false := by simpa using hgt
            have HDN : Hid (getS S k = ({ S with trial := t, rest := r }, some h)) := by
              have e := HGE.out
              rw [HBAL.out, bal_done (by omega)] at e
              exact e
            have HNQ : Hid (¬ M5 q0) := fun e => by
                  rcases HM5.out _ e with e | e
                  · have := HLOW.out _ e; omega
                  · exact e.2.1 rfl
            clear hgt HXR htot htot2
            go_wp2_with fail
            go_quiet (fail)
            have HBX5 : Hid (Below wr.heap.size wr (wr.drewN nq)) := below_drewN (Below.refl _ _) nq
            have HLD := hide (load_held_blk (wr.drewN nq) q9 _ h l (HB9.out.drewN nq))
            have HHH : Hid (HeldD (wr.drewN nq) C h l) := by
              have hh := HIN.out.lift HBX5.out
              rcases HMEM.out with e | e
              · exact hh.ct _ e
              · exact hh.cr _ e
            have HCP := hide (copied_anyT (wr.drewN nq) h l C HHH.out (fun q hq => (HIN.out.lift HBX5.out).low q (HIN.out.cm q hq).1) ⟨HOK.out.1, HOK.out.2.1, HOK.out.2.2.1, HOK.out.2.2.2.1⟩)
            clear c1 c5
            go_wp2_with (with_reducible refine wpList_load_run rfl 40 (.tmp 9) rfl HLD.out rfl ?_)
            refine (unhide HCP).mono ?_
            rintro e w8 ⟨l', rfl, hh8, hb8, ht8⟩
            have HB8 : Hid (Below wr.heap.size wr w8) := HBX5.out.trans (hb8.mono HBX5.out.size)
            have hzb : Blk w8 q0 40 heldZero := HZB.out.below HB8.out HZB.out.lt
            have hst := cells_held_blk w8 q0 _ _ h l' hzb rfl
            have HB7 : Hid (Blk (w8.setRow q0 (hcs h l').toArray) q0 40 (hcs h l').toArray) := hzb.setRow _
            have hf7 : Fr (fun q => some q0 = some q) w8 (w8.setRow q0 (hcs h l').toArray) := Fr.of_grown (grown_setRow _ _ _)
            have hq05 := HZB.out.lt
            have hsd := HBX5.out.size
            have HH7 : Hid (HeldD (w8.setRow q0 (hcs h l').toArray) (fun q => W.heap.size ≤ q ∧ q < (w8.setRow q0 (hcs h l').toArray).heap.size ∧ ¬ M5 q) h l') := (hh8.weak (D' := fun q => (wr.drewN nq).heap.size + 2 ≤ q ∧ q < (w8.setRow q0 (hcs h l').toArray).heap.size) (fun q hq => ⟨hq.1, by have := hf7.size; omega⟩)).fr hf7 (fun q hq e => by injection e with e; omega) |>.weak (fun q hq => ⟨by omega, hq.2, fun e => by have := (HIN.out.lift HBX5.out).low q e; omega⟩)
            have HT7 : Hid (ReadsT (w8.setRow q0 (hcs h l').toArray) (fun q => W.heap.size ≤ q ∧ ¬ M5 q) 1 l'.ay h.bytes.length (byts h.bytes)) := (ht8.fr hf7 (fun q hq e => by injection e with e; omega)).weak (fun q hq => ⟨by omega, fun e => by have := (HIN.out.lift HBX5.out).low q e; omega⟩)
            have HCF : Hid (CacheIn (w8.setRow q0 (hcs h l').toArray) M5 C g { S with trial := t, rest := r } vt5 vr5 Xt5 Xr5) := (HIN.out.lift HB8.out).same (hf7.same (fun q hq => ⟨(HIN.out.lift HB8.out).low q hq, fun e => HNQ.out (by injection e with e; rw [e]; exact hq)⟩)) hf7.size
            have HFF : Hid (Fr M W (w8.setRow q0 (hcs h l').toArray)) := (HF5.out.trans (Fr.of_below HB8.out M) (fun _ _ e => e)).trans hf7 (fun q hq e => by injection e with e; omega)
            clear hzb hf7 hh8 hb8 ht8 HCP HLD HHH HB8 HBX5 tgt
            go_wp2_with fail
            clear hst
            generalize w8.setRow q0 (hcs h l').toArray = W7 at *
            refine bodyPost_ret (results_cell_tmp Try.results12 (load_var_blk W7 _ _ h l' HB7.out) rfl) rfl ?_
            unfold GetPostX
            rw [HDN.out]
            exact ⟨M5, ⟨C, vt5, vr5, Xt5, Xr5, HCF.out⟩, fun q hq => (by
              rcases HM5.out q hq with e | e
              · exact .inl e
              · exact .inr e.1), HFF.out, l', rfl, HH7.out, HT7.out⟩
      | false =>
        rw [idx_no hhas] at HFI
        have HHAS : Hid (Nos S k 2) := ⟨fun _ => HN.out.1 (by omega), fun _ => hhas⟩
        clear hhas hlen
        go_wp2_with fail
        refine (unhide HFI).mono ?_
        rintro e w1 ⟨rfl, hb1⟩
        have HP1 := hide (HPR.out.lift hb1)
        clear hb1 HFI
        go_wp2
        go_roundw
        case rel => exact ⟨2, by omega, rfl, HP1.out, HHAS.out⟩
        case measure => simp [intOf]
    | 2, _ =>
      have HPK : Hid (getS S k = (S, none)) := by
        show _ = _
        unfold getS
        rw [if_neg (by rw [HN.out.1 (by omega)]; simp), getK_no (HN.out.2 (by omega))]
      have hst := cells_held_blk wr q0 _ _ zh zl HBX.out rfl
      have HB7 : Hid (Blk (wr.setRow q0 (hcs zh zl).toArray) q0 40 (hcs zh zl).toArray) := HBX.out.setRow _
      have hf7 : Fr (fun q => some q0 = some q) wr (wr.setRow q0 (hcs zh zl).toArray) := Fr.of_grown (grown_setRow _ _ _)
      have HCF : Hid (CacheIn (wr.setRow q0 (hcs zh zl).toArray) M C g S vt1 vr1 Xt1 Xr1) := HC.out.same (hf7.same (fun q hq => ⟨HC.out.low q hq, fun e => by injection e with e; have := HLOW.out q hq; omega⟩)) hf7.size
      have HFF : Hid (Fr M W (wr.setRow q0 (hcs zh zl).toArray)) := (Fr.of_below HPR.out.2.2.2 M).trans hf7 (fun q hq e => by injection e with e; omega)
      clear hf7 s0 s1
      go_wp2_with (with_reducible refine wpList_build_zh rfl rfl ?_)
      clear hst
      generalize wr.setRow q0 (hcs zh zl).toArray = W7 at *
      refine bodyPost_ret (results_cell_tmp Try.results12 (load_var_blk W7 _ _ zh zl HB7.out) rfl) rfl ?_
      unfold GetPostX
      rw [HPK.out]
      exact ⟨M, ⟨C, vt1, vr1, Xt1, Xr1, HCF.out⟩, fun q hq => .inl hq, HFF.out, zl, rfl, zh_held _ _, ⟨rfl, fun h => absurd (show 0 < 0 from h) (by decide)⟩⟩
theorem get_any {W : World} {M : Nat → Prop} {g : Nat} {S : CS} (k : ByteArray) (HC : CacheAt W M g S) (hn : S.trial.length + S.rest.length < 1000) :
    Calls Try.prog 12 #[.pointer (some ⟨g, 0, none⟩), .string k] W (GetPost W M g S k) := by
  refine (get_anyX k HC hn).mono ?_
  rintro e W' ⟨M', h1, h2, h3, l', h4, h5, -⟩
  exact ⟨⟨l', h4, h5.weak fun q hq => ⟨hq.1, hq.2.1⟩⟩, M', h1, h2, h3⟩
end Go.Proofs.Ytjijdpdbkpknpaa
