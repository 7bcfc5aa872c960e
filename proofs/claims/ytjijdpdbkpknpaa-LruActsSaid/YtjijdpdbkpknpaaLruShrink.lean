/-
  The walk of lru's shrink: the first of the trial go, then those of the rest, till the budget bears what is left. Condition: the cache lies as its state says.
-/
import Derived.Test.YtjijdpdbkpknpaaLruKeys
namespace Go.Proofs.Ytjijdpdbkpknpaa
open Go Go.RowKit

def shrinkR (b : Nat) : List Hd → List Hd × List ByteArray
  | [] => ([], [])
  | x :: r => if sumC (x :: r) ≤ b then (x :: r, []) else ((shrinkR b r).1, x.key :: (shrinkR b r).2)
def shrinkT (b : Nat) (r : List Hd) : List Hd → List Hd × List Hd × List ByteArray
  | [] => ([], (shrinkR b r).1, (shrinkR b r).2)
  | x :: t => if sumC (x :: t) + sumC r ≤ b then (x :: t, r, []) else ((shrinkT b r t).1, (shrinkT b r t).2.1, x.key :: (shrinkT b r t).2.2)
theorem shrinkR_done {b : Nat} : ∀ {r : List Hd}, sumC r ≤ b → shrinkR b r = (r, [])
  | [], _ => rfl
  | x :: r, h => by unfold shrinkR; rw [if_pos h]
theorem shrinkT_done {b : Nat} {r : List Hd} : ∀ {t : List Hd}, sumC t + sumC r ≤ b → shrinkT b r t = (t, r, [])
  | [], h => by unfold shrinkT; rw [shrinkR_done (by simpa [sumC] using h)]
  | x :: t, h => by unfold shrinkT; rw [if_pos h]
theorem shrinkT_step {b : Nat} {r t : List Hd} {x : Hd} (h : b < sumC (x :: t) + sumC r) : shrinkT b r (x :: t) = ((shrinkT b r t).1, (shrinkT b r t).2.1, x.key :: (shrinkT b r t).2.2) := by
  rw [shrinkT, if_neg (by omega)]
theorem shrinkT_rest {b : Nat} {r : List Hd} {x : Hd} (h : b < sumC [] + sumC (x :: r)) : shrinkT b (x :: r) [] = ((shrinkT b r []).1, (shrinkT b r []).2.1, x.key :: (shrinkT b r []).2.2) := by
  have h' : ¬ sumC (x :: r) ≤ b := by simpa [sumC] using h
  show ([], (shrinkR b (x :: r)).1, (shrinkR b (x :: r)).2) = _
  rw [shrinkR, if_neg h']
  rfl

def vlen : Value → Nat
  | .slice _ n _ => n
  | _ => 0
theorem own_vlen {w : World} {base size n : Nat} {e : TypeId} {v : Value} {xs : List Value} (h : w.ownsRow base e size v n xs) : vlen v = n := by
  rcases h.2 with ⟨e1, h0⟩ | ⟨g', cap, cur, e1, _⟩
  · rw [e1, h0]; rfl
  · rw [e1]; rfl

def Shrunk (W : World) (M C : Nat → Prop) (g : Nat) (S : CS) (e : Ending) (W' : World) : Prop :=
  ∃ A c vt vr Xt Xr, e = .returned (.slice A (shrinkT S.budget S.rest S.trial).2.2.length c) ∧ ReadsD W' (fun q => W.heap.size ≤ q ∧ q < W'.heap.size) 1 A (shrinkT S.budget S.rest S.trial).2.2.length (strs (shrinkT S.budget S.rest S.trial).2.2) ∧
    CacheIn W' M C g { S with trial := (shrinkT S.budget S.rest S.trial).1, rest := (shrinkT S.budget S.rest S.trial).2.1 } vt vr Xt Xr ∧ Fr M W W'
theorem field_key (h : Hd) (l : Loc) (W : World) : (Instr.field 40 (.agg (hcs h l).toArray) 0).run Try.prog W = .ok (.string h.key) W := by
  have h1 := Try.underlying40
  have hf : (Try.prog.info? 9).map (·.size) = some 1 := by kernel_rfl
  obtain ⟨i, hi, he⟩ := Option.map_eq_some_iff.1 hf
  simp [Instr.field, run_underlying h1, part, asAgg, sizeOf, typeInfo, hi, he, hcs, isAgg, run_underlying Try.underlying9]
theorem CacheIn.after {W wr w1 w2 : World} {M C : Nat → Prop} {g : Nat} {S : CS} {vt vr : Value} {Xt Xr : List (Hd × Loc)} (H : CacheIn wr M C g S vt vr Xt Xr) (hl : ∀ q, M q → q < W.heap.size) (hb : Below wr.heap.size wr w1) {u : Value} (hg : w1.grownBy w2 u.ownBlock) (hu : ∀ q, u.ownBlock = some q → W.heap.size ≤ q) (hf : Fr M W wr) : CacheIn w2 M C g S vt vr Xt Xr ∧ Fr M W w2 := by
  have h1 := H.lift hb
  refine ⟨h1.same (fun q hq => hg.block q (h1.low q hq) (fun e => by have := hl q hq; have := hu q e.symm; omega)) hg.size, ?_⟩
  exact (hf.trans (Fr.of_below hb M) (fun _ _ e => e)).trans (Fr.of_grown hg) (fun q hq e => by have := hu q e; omega)
/-- what the loop keeps -/
def ShRel (W : World) (M C : Nat → Prop) (g : Nat) (S : CS) (u : Value) (w : World) : Prop :=
  ∃ t r out vt vr Xt Xr, CacheIn w M C g { S with trial := t, rest := r } vt vr Xt Xr ∧ w.ownsRow W.heap.size 9 1 u (out : List ByteArray).length (strs out) ∧ Fr M W w ∧ out.length + (t.length + r.length) = S.trial.length + S.rest.length ∧
    shrinkT S.budget S.rest S.trial = ((shrinkT S.budget r t).1, (shrinkT S.budget r t).2.1, out ++ (shrinkT S.budget r t).2.2)

set_option maxRecDepth 100000 in
set_option maxHeartbeats 2000000 in
theorem shrink_any {W : World} {M C : Nat → Prop} {g : Nat} {S : CS} {vt vr : Value} {Xt Xr : List (Hd × Loc)} (H : CacheIn W M C g S vt vr Xt Xr) :
    Calls Try.prog 43 #[.pointer (some ⟨g, 0, none⟩)] W (Shrunk W M C g S) := by
  have HLOW := hide H.low
  have h1000 := H.ok.2.2.1
  have hbud := H.ok.1
  obtain ⟨i0, hi0, hz0, hz1, hz2⟩ := info_parts info_str
  have HST : Hid (ShRel W M C g S (.slice none 0 0) W) := ⟨S.trial, S.rest, [], vt, vr, Xt, Xr, H, World.ownsRow_nil _ _ _ _, Fr.refl _ _, by simp, by simp⟩
  clear H
  go_enter Try.func43, Try.ntmps43
  go_wp2_with fail
  go_loopw [3] (fun v wr => ShRel W M C g S v wr) (fun v _ => 1000 - vlen v)
  case atStart => exact HST.out
  case round =>
    clear HST
    obtain ⟨t, r, out, vt', vr', Xt', Xr', hin, hown, hfr, hlen, hsh⟩ := hrel
    have HIN := hide hin
    have HO := hide hown
    have HFR := hide hfr
    have HSH := hide hsh
    have hsz := hfr.size
    have HVL := hide (own_vlen hown)
    have hsum := hin.ok.sums
    change sumC t ≤ _ ∧ sumC r ≤ _ at hsum
    have b0 : wr.cell? ⟨g, 0, none⟩ = some (.int .i64 (S.budget : Int)) := hin.blk.cell 0
    have HU := hide (fun n => used_any (wr.drewN n) g S.budget S.share (sumC t) (sumC r) vt' vr' (hin.blk.drewN n) (by omega) (by omega))
    obtain ⟨At, ct, rfl, hx1⟩ := own_form hin.rt
    obtain ⟨Ar, cr, rfl, hx2⟩ := own_form hin.rr
    clear hx1 hx2
    have b2 : wr.cell? ⟨g, 2, none⟩ = some (.slice At Xt'.length ct) := hin.blk.cell 2
    have b4 : wr.cell? ⟨g, 4, none⟩ = some (.slice Ar Xr'.length cr) := hin.blk.cell 4
    have HIND := hide (fun n => hin.lift (below_drewN (Below.refl wr.heap.size wr) n))
    have HXT := hide hin.xt
    have HXR := hide hin.xr
    clear hin hown hfr hsh
    by_cases hgt : S.budget < sumC t + sumC r
    · have tgt : decide ((S.budget : Int) < (sumC t : Int) + (sumC r : Int)) = true := by simp; omega
      cases t with
      | cons x t' =>
        obtain ⟨l0, X0, rfl⟩ : ∃ l0 X0, Xt' = (x, l0) :: X0 := by
          match Xt', HXT.out with
          | (y, l0) :: X0, e => 
            have e' : y :: hds X0 = x :: t' := e
            injection e' with e1 e2
            exact ⟨l0, X0, by rw [e1]⟩
        have HP := hide (fun n => pull_trial (HIND.out n) 0 (by simp))
        have HS2 := hide (shrinkT_step hgt)
        have hlen2 : out.length + (t'.length + 1 + r.length) = S.trial.length + S.rest.length := hlen
        clear hlen hgt HXT HXR
        have tl : decide (0 < X0.length + 1) = true := by simp
        change Hid (∀ n, Calls _ _ _ _ (Pull2 (wr.drewN n) M C g _ _ ((x, l0) :: X0) Xr' 0 x l0)) at HP
        rw [List.length_cons] at b2
        go_wp2_with fail
        go_quiet ((go_at_call 14; exact Calls.quiet_of (HU.out _)))
        clear HU
        go_wp2_with fail
        refine (HP.out _).mono ?_
        rintro e W1 ⟨rfl, ⟨vt1, hc1⟩, hf1, _⟩
        have HC1 := hide hc1
        have HF1 := hide hf1
        clear hc1 hf1
        have HOW : Hid (W1.ownsRow W.heap.size 9 1 u3 out.length (strs out)) := HF1.out.own (own_keep HO.out (below_drewN (Below.refl _ _) nq)) (fun q hq e => by have := HLOW.out q e; have := (HO.out.lt q hq).1; omega)
        have HFW : Hid (Fr M W W1) := (HFR.out.trans (Fr.of_below (below_drewN (Below.refl wr.heap.size wr) nq) M) (fun _ _ e => e)).trans HF1.out (fun _ _ e => e)
        have hsz1 := HFW.out.size
        have hfl := fun W' => field_key x l0 W'
        have HKA : Hid (keysOf [x] = [x.key]) := rfl
        generalize hkk : x.key = key at *
        have HKK := hide hkk
        clear hkk
        have HO2 : Hid ((W1.alloc (.cells #[.string key] 9)).ownsRow W.heap.size 9 1 u3 out.length (strs out)) := own_keep HOW.out ((Below.refl _ _).alloc (Nat.le_refl _) _)
        have HR2 : Hid (Reads (W1.alloc (.cells #[.string key] 9)) (W1.heap.size + 1) 1 (some ⟨W1.heap.size, 0, none⟩) 1 [.string key]) := ⟨rfl, fun _ => ⟨_, rfl, by simp, fun j u hu => by
          rw [add_flat, cell_new, ← hu]
          simp⟩⟩
        go_wp2_with (at_builtin; refine wpList_append_any _ rfl (.tmp 24) (.tmp 28) _ rfl W.heap.size 9 i0 _ 1 16 Try.underlying28 hi0 hz0 hz1 hz2 rfl (by omega) u3 out.length (strs out) rfl HO2.out (W1.heap.size + 1) (some ⟨W1.heap.size, 0, none⟩) 1 1 [.string key] rfl HR2.out (by simp [Value.oneCell']) (by simp only [maxLen]; omega) (by omega) (by simp; omega) ?_; intro v1 w1 hown1 hg1 hat1)
        have HAF := hide (CacheIn.after (W := W) HC1.out HLOW.out ((Below.refl _ _).alloc (Nat.le_refl _) (.cells #[.string key] 9)) hg1 (fun q hq => (HO2.out.lt q hq).1) HFW.out)
        have HO1 : Hid (w1.ownsRow W.heap.size 9 1 v1 (out ++ [key]).length (strs (out ++ [key]))) := by
          rw [List.length_append, List.length_singleton]
          have e : strs (out ++ [key]) = strs out ++ [.string key] := by simp [strs]
          rw [e]
          exact hown1
        have HV1 := hide (own_vlen HO1.out)
        clear hown1 hg1 hat1 hfl
        go_roundw
        case rel => exact ⟨t', r, out ++ [key], _, _, _, _, HAF.out.1, HO1.out, HAF.out.2, by rw [List.length_append, List.length_singleton]; omega, by rw [HSH.out, HS2.out]; simp⟩
        case measure => rw [HV1.out, HVL.out, List.length_append, List.length_singleton]; omega
      | nil =>
       cases r with
       | nil => exact absurd hgt (by simp [sumC])
       | cons x t' =>
        obtain rfl : Xt' = [] := List.eq_nil_of_map_eq_nil HXT.out
        obtain ⟨l0, X0, rfl⟩ : ∃ l0 X0, Xr' = (x, l0) :: X0 := by
          match Xr', HXR.out with
          | (y, l0) :: X0, e =>
            have e' : y :: hds X0 = x :: t' := e
            injection e' with e1 e2
            exact ⟨l0, X0, by rw [e1]⟩
        have HP := hide (fun n => pull_rest (HIND.out n) 0 (by simp))
        have HS2 := hide (shrinkT_rest hgt)
        have hlen2 : out.length + (0 + (t'.length + 1)) = S.trial.length + S.rest.length := hlen
        clear hlen hgt HXT HXR
        have tl : decide (0 < X0.length + 1) = true := by simp
        change Hid (∀ n, Calls _ _ _ _ (Pull4 (wr.drewN n) M C g _ _ [] ((x, l0) :: X0) 0 x l0)) at HP
        rw [List.length_cons] at b4
        have b2' : wr.cell? ⟨g, 2, none⟩ = some (.slice At 0 ct) := b2
        clear b2
        go_wp2_with fail
        go_quiet ((go_at_call 14; exact Calls.quiet_of (HU.out _)))
        clear HU
        go_wp2_with fail
        refine (HP.out _).mono ?_
        rintro e W1 ⟨rfl, ⟨vt1, hc1⟩, hf1, _⟩
        have HC1 := hide hc1
        have HF1 := hide hf1
        clear hc1 hf1
        have HOW : Hid (W1.ownsRow W.heap.size 9 1 u3 out.length (strs out)) := HF1.out.own (own_keep HO.out (below_drewN (Below.refl _ _) nq)) (fun q hq e => by have := HLOW.out q e; have := (HO.out.lt q hq).1; omega)
        have HFW : Hid (Fr M W W1) := (HFR.out.trans (Fr.of_below (below_drewN (Below.refl wr.heap.size wr) nq) M) (fun _ _ e => e)).trans HF1.out (fun _ _ e => e)
        have hsz1 := HFW.out.size
        have hfl := fun W' => field_key x l0 W'
        have HKA : Hid (keysOf [x] = [x.key]) := rfl
        generalize hkk : x.key = key at *
        have HKK := hide hkk
        clear hkk
        have HO2 : Hid ((W1.alloc (.cells #[.string key] 9)).ownsRow W.heap.size 9 1 u3 out.length (strs out)) := own_keep HOW.out ((Below.refl _ _).alloc (Nat.le_refl _) _)
        have HR2 : Hid (Reads (W1.alloc (.cells #[.string key] 9)) (W1.heap.size + 1) 1 (some ⟨W1.heap.size, 0, none⟩) 1 [.string key]) := ⟨rfl, fun _ => ⟨_, rfl, by simp, fun j u hu => by
          rw [add_flat, cell_new, ← hu]
          simp⟩⟩
        go_wp2_with (at_builtin; refine wpList_append_any _ rfl (.tmp 24) (.tmp 28) _ rfl W.heap.size 9 i0 _ 1 16 Try.underlying28 hi0 hz0 hz1 hz2 rfl (by omega) u3 out.length (strs out) rfl HO2.out (W1.heap.size + 1) (some ⟨W1.heap.size, 0, none⟩) 1 1 [.string key] rfl HR2.out (by simp [Value.oneCell']) (by simp only [maxLen]; omega) (by omega) (by simp; omega) ?_; intro v1 w1 hown1 hg1 hat1)
        have HAF := hide (CacheIn.after (W := W) HC1.out HLOW.out ((Below.refl _ _).alloc (Nat.le_refl _) (.cells #[.string key] 9)) hg1 (fun q hq => (HO2.out.lt q hq).1) HFW.out)
        have HO1 : Hid (w1.ownsRow W.heap.size 9 1 v1 (out ++ [key]).length (strs (out ++ [key]))) := by
          rw [List.length_append, List.length_singleton]
          have e : strs (out ++ [key]) = strs out ++ [.string key] := by simp [strs]
          rw [e]
          exact hown1
        have HV1 := hide (own_vlen HO1.out)
        clear hown1 hg1 hat1 hfl
        go_roundw
        case rel =>
          refine ⟨[], t', out ++ [key], _, _, _, _, HAF.out.1, HO1.out, HAF.out.2, ?_, ?_⟩
          · rw [List.length_append, List.length_singleton, List.length_nil]; omega
          · have e := HS2.out
            have e2 := HSH.out
            rw [e] at e2
            rw [e2, List.append_assoc]
            rfl
        case measure => rw [HV1.out, HVL.out, List.length_append, List.length_singleton]; omega
    · have tgt : decide ((S.budget : Int) < (sumC t : Int) + (sumC r : Int)) = false := by simp; omega
      have HS2 := hide (shrinkT_done (b := S.budget) (r := r) (t := t) (by omega))
      obtain ⟨A', c', rfl, hr⟩ := own_strs HO.out
      have HR := hide hr
      clear hr
      go_wp2_with fail
      go_quiet ((go_at_call 14; exact Calls.quiet_of (HU.out _)))
      clear HU tgt
      go_wp2
      go_ret
      have e : shrinkT S.budget S.rest S.trial = (t, r, out) := by rw [HSH.out, HS2.out]; simp
      unfold Shrunk
      rw [e]
      exact ⟨A', c', _, _, _, _, rfl, HR.out, HIND.out nq, HFR.out.trans (Fr.of_below (below_drewN (Below.refl wr.heap.size wr) nq) M) (fun _ _ e => e)⟩
end Go.Proofs.Ytjijdpdbkpknpaa
