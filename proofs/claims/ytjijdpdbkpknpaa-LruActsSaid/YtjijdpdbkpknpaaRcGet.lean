/-
  The walk of the document's Get. Conditions: the cache lies as its state says; no key is there twice; there is room for one more.
-/
import Derived.Test.YtjijdpdbkpknpaaRcPut
namespace Go.Proofs.Ytjijdpdbkpknpaa
open Go Go.RowKit

theorem bal_len (sh : Nat) (r t : List Hd) : (bal sh r t).1.length + (bal sh r t).2.length = t.length + r.length := len_bal sh r t
theorem peek_get {S : CS} (hn : S.nd) (k : ByteArray) {h : Hd} (hp : peekS S k = some h) :
    getS S k = ({ S with trial := (bal S.share (del k S.rest ++ [h]) (del k S.trial)).1, rest := (bal S.share (del k S.rest ++ [h]) (del k S.trial)).2 }, some h) ∧ (del k S.trial).length + (del k S.rest).length + 1 ≤ S.trial.length + S.rest.length := by
  unfold peekS at hp
  unfold getS
  cases hT : has k S.trial with
  | true =>
    rw [hT, if_pos rfl] at hp
    have hz : has k S.rest = false := has_zero.2 (by have h1 := cnt_pos.1 hT; have := hn k; omega)
    rw [if_pos rfl, hp, del_no hz]
    have := len_getK hp
    exact ⟨rfl, by omega⟩
  | false =>
    rw [hT, if_neg (by simp)] at hp
    rw [if_neg (by simp), hp, del_no hT]
    have := len_getK hp
    exact ⟨rfl, by omega⟩
theorem peek_get_no {S : CS} {k : ByteArray} (hp : peekS S k = none) : getS S k = (S, none) := by
  unfold peekS at hp
  unfold getS
  cases hT : has k S.trial with
  | true =>
    rw [hT, if_pos rfl] at hp
    rw [if_pos rfl, hp]
  | false =>
    rw [hT, if_neg (by simp)] at hp
    rw [if_neg (by simp), hp]
theorem peek_ok {S : CS} (hs : S.ok) {k : ByteArray} {h : Hd} (hp : peekS S k = some h) : h.ok := by
  unfold peekS at hp
  split at hp
  · exact hs.2.2.2 h (List.mem_append_left _ (List.mem_of_getElem? hp))
  · exact hs.2.2.2 h (List.mem_append_right _ (List.mem_of_getElem? hp))
/-- what the balance keeps -/
def RGetRel (W3 : World) (M : Nat → Prop) (B g : Nat) (S5 : CS) (wr : World) : Prop :=
  ∃ M' S', RefAt wr M' B g S' ∧ (∀ q, M' q → M q ∨ W3.heap.size ≤ q) ∧ Fr M W3 wr ∧ S'.budget = S5.budget ∧ S'.share = S5.share ∧ S'.trial.length + S'.rest.length ≤ 999 ∧ bal S5.share S5.rest S5.trial = bal S5.share S'.rest S'.trial
def rrest (g : Nat) (w : World) : Nat := vlen ((w.cell? ⟨g, 3, none⟩).getD undef)
theorem RefIn.rrest {W : World} {M : Nat → Prop} {B g : Nat} {S : CS} {vt vr : Value} {Xt Xr : List (Hd × Loc)} (H : RefIn W M B g S vt vr Xt Xr) : rrest g W = S.rest.length := by
  unfold Proofs.Ytjijdpdbkpknpaa.rrest
  rw [show W.cell? ⟨g, 3, none⟩ = some vr from H.blk.cell 3]
  show vlen vr = _
  rw [own_vlen H.rr, H.len.2]

set_option maxRecDepth 100000 in
set_option maxHeartbeats 4000000 in
theorem rget_any {W : World} {M : Nat → Prop} {B g : Nat} {S : CS} (H : RefAt W M B g S) (hnd : S.nd) (k : ByteArray) (hn : S.trial.length + S.rest.length < 1000) :
    Calls Try.prog 23 #[.pointer (some ⟨g, 0, none⟩), .string k] W fun e W' => RGiven B (getS S k).2 e W' ∧ RefTo W M B g (getS S k).1 W' := by
  have hz := fun W' => zero_held W'
  have hBd : B ≤ W.heap.size := by
    obtain ⟨vt, vr, Xt, Xr, h0⟩ := H
    exact h0.bound
  have HML : Hid (∀ q, M q → q < W.heap.size) := fun q hq => (H.low q hq).2
  have HMB : Hid (∀ q, M q → B ≤ q) := fun q hq => (H.low q hq).1
  have HSOK := hide H.sok
  have HHN := hide hn
  have HND := hide hnd
  have HW1 : Hid (Below W.heap.size W (W.alloc (.cells heldZero 40)) ∧ (W.alloc (.cells heldZero 40)).heap.size = W.heap.size + 1) := ⟨(Below.refl _ _).alloc (Nat.le_refl _) _, by simp⟩
  have HZB : Hid (Blk (W.alloc (.cells heldZero 40)) W.heap.size 40 heldZero) := Blk.new _ _ _
  obtain ⟨W1, hA1⟩ : ∃ W1, W.alloc (.cells heldZero 40) = W1 := ⟨_, rfl⟩
  rw [hA1] at HW1 HZB
  have HR1 := hide (H.lift HW1.out.1)
  have HPK := hide (rpeek_any HR1.out k)
  clear H hnd hn
  obtain ⟨q4, hq4⟩ : ∃ q4, q4 = W.heap.size := ⟨_, rfl⟩
  have HQ4 := hide hq4
  rw [← hq4] at HZB
  obtain ⟨i0, z0, hi0, hz0, hzc, hz1, hz2⟩ := held_zero4
  have hz17 : z0.cells.size = 17 := by rw [hzc]; rfl
  go_enter Try.func23, Try.ntmps23
  go_wp2_with fail
  try rw [← hq4]
  clear hA1 hq4
  refine (unhide HPK).mono ?_
  rintro e w2 ⟨⟨l, rfl, hhl⟩, hb2⟩
  have hsc := cells_held_new w2 ((peekS S k).getD zh) l
  have HHL := hide hhl
  have HB2 := hide hb2
  have HQB0 : Hid (Blk (w2.alloc (.cells (hcs ((peekS S k).getD zh) l).toArray 40)) w2.heap.size 40 (hcs ((peekS S k).getD zh) l).toArray) := Blk.new _ _ _
  have HW3 : Hid (Below w2.heap.size w2 (w2.alloc (.cells (hcs ((peekS S k).getD zh) l).toArray 40)) ∧ (w2.alloc (.cells (hcs ((peekS S k).getD zh) l).toArray 40)).heap.size = w2.heap.size + 1) := ⟨(Below.refl _ _).alloc (Nat.le_refl _) _, by simp⟩
  obtain ⟨w3, hA3⟩ : ∃ w3, w2.alloc (.cells (hcs ((peekS S k).getD zh) l).toArray 40) = w3 := ⟨_, rfl⟩
  rw [hA3] at hsc HQB0 HW3
  clear hhl hb2 HPK
  cases hp : peekS S k with
  | none =>
    rw [hp] at hsc HHL HQB0
    simp only [Option.getD_none] at hsc HHL HQB0
    simp only [Option.getD_none, Option.isSome_none]
    have HGE := hide (peek_get_no hp)
    have hzb : Blk w3 q4 40 heldZero := (HZB.out.below HB2.out HZB.out.lt).below HW3.out.1 (Nat.lt_of_lt_of_le HZB.out.lt HB2.out.size)
    have hst := cells_held_blk w3 q4 _ _ zh l hzb rfl
    have HLD3 := hide (load_held_blk w3 _ _ zh l HQB0.out)
    have HB7 : Hid (Blk (w3.setRow q4 (hcs zh l).toArray) q4 40 (hcs zh l).toArray) := hzb.setRow _
    have hf7 : Fr (fun q => some q4 = some q) w3 (w3.setRow q4 (hcs zh l).toArray) := Fr.of_grown (grown_setRow _ _ _)
    have HH7 : Hid (HeldD (w3.setRow q4 (hcs zh l).toArray) (fun q => q < B) zh l) := (HHL.out.keep (Same.of_below HW3.out.1 fun q hq => by have := HB2.out.size; have := HW1.out.2; omega)).fr hf7 (fun q hq e => by injection e with e; have := HQ4.out; omega)
    have HRF : Hid (RefTo W M B g S (w3.setRow q4 (hcs zh l).toArray)) := by
      have hb3 : Below W1.heap.size W1 w3 := HB2.out.trans (HW3.out.1.mono HB2.out.size)
      have hq := HQ4.out
      have hb4 : Below W.heap.size W w3 := HW1.out.1.trans (hb3.mono HW1.out.1.size)
      exact ⟨M, (HR1.out.lift hb3).fr hf7 (fun q e => by injection e with e; exact ⟨by omega, fun k => by have := HML.out q k; omega⟩), fun q hq => .inl hq, (Fr.of_below hb4 M).trans hf7 (fun q hq e => by injection e with e; omega)⟩
    clear hf7 hzb hA3
    go_wp2_with (with_reducible refine wpList_load_run rfl 40 (.tmp 6) rfl HLD3.out rfl ?_)
    clear hst hsc
    generalize w3.setRow q4 (hcs zh l).toArray = W7 at *
    refine bodyPost_ret (results_cell_tmp Try.results23 (load_var_blk W7 _ _ zh l HB7.out) rfl) rfl ?_
    unfold RGiven
    rw [HGE.out]
    exact ⟨⟨l, rfl, HH7.out⟩, HRF.out⟩
  | some h =>
    rw [hp] at hsc HHL HQB0
    simp only [Option.getD_some] at hsc HHL HQB0
    simp only [Option.getD_some, Option.isSome_some]
    rw [hp] at hA3
    simp only [Option.getD_some] at hA3
    have HGE := hide (peek_get HND.out k hp)
    have HHO := hide (peek_ok HSOK.out hp)
    clear hp
    have HW4 : Hid (Below w3.heap.size w3 (w3.alloc (.cells #[.string k] 9)) ∧ (w3.alloc (.cells #[.string k] 9)).heap.size = w3.heap.size + 1) := ⟨(Below.refl _ _).alloc (Nat.le_refl _) _, by simp⟩
    have HSB4 : Hid (Blk (w3.alloc (.cells #[.string k] 9)) w3.heap.size 9 #[.string k]) := Blk.new _ _ _
    have HB14 : Hid (Below W1.heap.size W1 (w3.alloc (.cells #[.string k] 9))) := (HB2.out.trans (HW3.out.1.mono HB2.out.size)).trans (HW4.out.1.mono (by have := HB2.out.size; have := HW3.out.1.size; omega))
    have HDR := hide (rdrop_any (HR1.out.lift HB14.out) [k] (some ⟨w3.heap.size, 0, none⟩) 1 1 (D := fun q => q = w3.heap.size) rfl (by simp) ⟨rfl, fun _ => ⟨_, rfl, rfl, fun j u hu => by
      rw [add_flat, Nat.zero_add, HSB4.out.cell, List.getElem?_toArray]
      exact hu⟩⟩ (fun q hq e => by have := HML.out q e; have := HB2.out.size; have := HW3.out.2; have := HW1.out.2; omega))
    go_wp2_with fail
    clear hsc hA3 hz
    refine (unhide HDR).mono ?_
    rintro e w5 ⟨rfl, hrt⟩
    obtain ⟨w4, hw4⟩ : ∃ w4, w3.alloc (.cells #[.string k] 9) = w4 := ⟨_, rfl⟩
    rw [hw4] at hrt HB14 HW4
    obtain ⟨M3, ⟨vt3, vr3, Xt3, Xr3, h3⟩, hM3, hf3⟩ := hrt
    change RefIn w5 M3 B g { S with trial := del k S.trial, rest := del k S.rest } vt3 vr3 Xt3 Xr3 at h3
    have HIN3 := hide h3
    have HM3 := hide hM3
    have HF3 := hide hf3
    clear h3 hM3 hf3 HDR HSB4 hw4
    obtain ⟨q6, hq6⟩ : ∃ q6, q6 = w2.heap.size := ⟨_, rfl⟩
    have HQ6 := hide hq6
    rw [← hq6] at HQB0 ⊢
    clear hq6
    have HQX : Hid (∀ x, Fr M w4 x → Blk x q6 40 (hcs h l).toArray ∧ Blk x q4 40 heldZero) := fun x hx => by
      have s1 := HB2.out.size
      have s2 := HW3.out.2
      have s3 := HW1.out.2
      have e6 := HQ6.out
      have e4 := HQ4.out
      have l4 := HZB.out.lt
      exact ⟨hx.blk (HQB0.out.below HW4.out.1 (by omega)) (fun e => by have := HML.out _ e; omega), hx.blk (HZB.out.below HB14.out l4) (fun e => by have := HML.out _ e; omega)⟩
    have HHX : Hid (∀ x, Fr M w4 x → HeldD x (fun q => q < B) h l) := fun x hx => by
      have s1 := HB2.out.size
      have s2 := HW3.out.2
      have s3 := HW1.out.2
      exact ((HHL.out.keep (Same.of_below HW3.out.1 fun q hq => by omega)).keep (Same.of_below HW4.out.1 fun q hq => by omega)).fr hx (fun q hq e => by have := HMB.out q e; omega)
    have HNM : Hid (∀ M' : Nat → Prop, (∀ q, M' q → M q ∨ w4.heap.size ≤ q) → ¬ M' q6 ∧ ¬ M' q4) := fun M' hM' => by
      have s1 := HB2.out.size
      have s2 := HW3.out.2
      have s3 := HW1.out.2
      have s4 := HW4.out.2
      have e6 := HQ6.out
      have e4 := HQ4.out
      exact ⟨fun e => by
        rcases hM' _ e with k | k
        · have := HML.out _ k; omega
        · omega, fun e => by
        rcases hM' _ e with k | k
        · have := HML.out _ k; omega
        · omega⟩
    have HQB : Hid (∀ x, Below w5.heap.size w5 x → Blk x q6 40 (hcs h l).toArray) := fun x hx => (HQX.out x (HF3.out.trans (Fr.of_below hx M) (fun _ _ e => e))).1
    have HHB := hide (HHX.out w5 HF3.out)
    have HNQ := hide (HNM.out M3 HM3.out).1
    have HOKR : Hid (CS.ok { S with trial := del k S.trial, rest := del k S.rest ++ [h] }) := by
      have hs := HSOK.out
      refine ⟨hs.1, hs.2.1, ?_, fun x hx => ?_⟩
      · show (del k S.trial).length + (del k S.rest ++ [h]).length ≤ 1000
        rw [List.length_append, List.length_singleton]
        have := HGE.out.2
        have := hs.2.2.1
        omega
      · rcases List.mem_append.1 hx with e | e
        · exact hs.2.2.2 x (List.mem_append_left _ (List.mem_of_mem_eraseIdx e))
        · rcases List.mem_append.1 e with e | e
          · exact hs.2.2.2 x (List.mem_append_right _ (List.mem_of_mem_eraseIdx e))
          · rw [List.mem_singleton.1 e]; exact HHO.out
    have HSX : Hid (∀ x, Below w5.heap.size w5 x → x.cell? ⟨g, 3, none⟩ = some vr3 ∧ (Instr.loadAt 40 (.pointer (some ⟨q6, 0, none⟩))).run Try.prog x = .ok (.agg (hcs h l).toArray) x) := fun x hx => ⟨(HIN3.out.lift hx).blk.cell 3, load_held_blk x q6 _ h l (HQB.out x hx)⟩
    go_wp2_with fail
    refine region_U (fun x => x.cell? ⟨g, 3, none⟩ = some vr3 ∧ (Instr.loadAt 40 (.pointer (some ⟨q6, 0, none⟩))).run Try.prog x = .ok (.agg (hcs h l).toArray) x) 10 (by kernel_rfl) ?_
    intro Y hY
    have HBY : Hid (Below w5.heap.size w5 Y) := by rw [hY]; exact (Below.refl _ _).drew
    have HSY := hide (HSX.out Y HBY.out)
    clear hY
    refine takeV 6 0 (.pointer (some ⟨g, 0, none⟩)) rfl (by kernel_rfl) (fun _ _ _ h => h) (by rfl) (fun x hS => by
      obtain ⟨s1, s2⟩ := hS
      go_simp) HSY.out ?_
    simp only [Act.put, List.getElem_toArray, List.getElem_cons_succ, List.getElem_cons_zero, List.setIfInBounds_toArray, List.set_cons_zero, List.set_cons_succ]
    refine takeV 6 1 (.pointer (some ⟨g, 0, none⟩)) rfl (by kernel_rfl) (fun _ _ _ h => h) (by rfl) (fun x hS => by
      obtain ⟨s1, s2⟩ := hS
      go_simp) HSY.out ?_
    simp only [Act.put, List.getElem_toArray, List.getElem_cons_succ, List.getElem_cons_zero, List.setIfInBounds_toArray, List.set_cons_zero, List.set_cons_succ]
    refine takeV 6 2 (.pointer (some ⟨g, 0, none⟩)) rfl (by kernel_rfl) (fun _ _ _ h => h) (by rfl) (fun x hS => by
      obtain ⟨s1, s2⟩ := hS
      go_simp) HSY.out ?_
    simp only [Act.put, List.getElem_toArray, List.getElem_cons_succ, List.getElem_cons_zero, List.setIfInBounds_toArray, List.set_cons_zero, List.set_cons_succ]
    refine takeV 6 3 (.pointer (some ⟨g, 3, none⟩)) rfl (by kernel_rfl) (fun _ _ _ h => h) (by rfl) (fun x hS => by
      obtain ⟨s1, s2⟩ := hS
      go_simp) HSY.out ?_
    simp only [Act.put, List.getElem_toArray, List.getElem_cons_succ, List.getElem_cons_zero, List.setIfInBounds_toArray, List.set_cons_zero, List.set_cons_succ]
    refine takeV 6 4 (vr3) rfl (by kernel_rfl) (fun _ _ _ h => h) (by rfl) (fun x hS => by
      obtain ⟨s1, s2⟩ := hS
      go_simp) HSY.out ?_
    simp only [Act.put, List.getElem_toArray, List.getElem_cons_succ, List.getElem_cons_zero, List.setIfInBounds_toArray, List.set_cons_zero, List.set_cons_succ]
    refine takeV 6 5 (.agg (hcs h l).toArray) rfl (by kernel_rfl) (fun _ _ _ h => h) (by rfl) (fun x hS => exec_load 40 (.tmp 6) rfl hS.2 rfl) HSY.out ?_
    simp only [Act.put, List.getElem_toArray, List.getElem_cons_succ, List.getElem_cons_zero, List.setIfInBounds_toArray, List.set_cons_zero, List.set_cons_succ]
    refine oneU 6 rfl (by kernel_rfl) (by rfl) (runU (exec_slice 46 (.tmp 26) rfl (slice_held h l Y) rfl) ?_)
    have HBS : Hid (Below w5.heap.size w5 (Y.alloc (.cells (hcs h l).toArray 40))) := HBY.out.alloc HBY.out.size _
    have HSB : Hid (Blk (Y.alloc (.cells (hcs h l).toArray 40)) Y.heap.size 40 (hcs h l).toArray) := Blk.new _ _ _
    generalize Y.alloc (.cells (hcs h l).toArray 40) = X at *
    refine ⟨fun _ => HSX.out X HBS.out, ?_⟩
    simp only [Act.put, List.getElem_toArray, List.getElem_cons_succ, List.getElem_cons_zero, List.setIfInBounds_toArray, List.set_cons_zero, List.set_cons_succ]
    have HRD : Hid (Reads X X.heap.size 17 (some ⟨Y.heap.size, 0, none⟩) 1 (hcs h l)) := ⟨rfl, fun _ => ⟨_, rfl, HSB.out.lt, blk_held HSB.out⟩⟩
    have HOX := hide (own_keep HIN3.out.rr HBS.out)
    have HXL : Hid (Xr3.length ≤ 1000) := by have := HIN3.out.len; have := HIN3.out.ok.2.2.1; show _ ≤ _; omega
    refine oneU 7 rfl (by kernel_rfl) (by rfl) (wp_append_any _ (.tmp 25) (.tmp 27) 46 (by rfl) 0 40 i0 z0 17 248 Try.underlying46 hi0 hz0 hz1 hz2 hz17 (by omega) vr3 Xr3.length (hrow Xr3) (by rfl) HOX.out X.heap.size (some ⟨Y.heap.size, 0, none⟩) 1 1 (hcs h l) (by rfl) HRD.out hcs_one (by have := HXL.out; simp only [maxLen]; omega) (by have := HXL.out; omega) (Nat.zero_le _) ?_)
    intro v3 W3 hown3 hg3 hat3
    obtain ⟨A3, c3, e3, _⟩ := own_form hown3
    subst e3
    have HAD := hide (HIN3.out.addR h l HBS.out hg3 hown3 hat3 HHB.out HOKR.out)
    have HB3 : Hid (Blk W3 g 64 _) := ((HIN3.out.lift HBS.out).blk).grown hg3 (fun e => own_type_ne HIN3.out.rr HIN3.out.blk (by decide) g e.symm rfl)
    have HS3 : Hid (W3.cell? ⟨g, 3, none⟩ = some vr3 ∧ (Instr.loadAt 40 (.pointer (some ⟨q6, 0, none⟩))).run Try.prog W3 = .ok (.agg (hcs h l).toArray) W3) := ⟨HB3.out.cell 3, load_held_blk W3 _ _ h l ((HQB.out X HBS.out).grown hg3 (fun e => HNQ.out (HIN3.out.mr q6 e.symm)))⟩
    have qc3 : W3.cell? ⟨g, 3, none⟩ = some (vr3) := HB3.out.cell 3
    have fc3 := HB3.out.frozen 3
    clear hown3 hg3 hat3 HB3
    refine ⟨fun _ => HS3.out, ?_⟩
    simp only [Act.put, List.getElem_toArray, List.getElem_cons_succ, List.getElem_cons_zero, List.setIfInBounds_toArray, List.set_cons_zero, List.set_cons_succ]
    refine oneU 8 rfl (by kernel_rfl) (by rfl) (runU (v := .pointer (some ⟨g, 0, none⟩)) (x := W3) (by go_simp) ⟨fun _ => HS3.out, ?_⟩)
    simp only [Act.put, List.getElem_toArray, List.getElem_cons_succ, List.getElem_cons_zero, List.setIfInBounds_toArray, List.set_cons_zero, List.set_cons_succ]
    refine oneU 9 rfl (by kernel_rfl) (by rfl) (runU (v := .pointer (some ⟨g, 3, none⟩)) (x := W3) (by go_simp) ⟨fun _ => HS3.out, ?_⟩)
    simp only [Act.put, List.getElem_toArray, List.getElem_cons_succ, List.getElem_cons_zero, List.setIfInBounds_toArray, List.set_cons_zero, List.set_cons_succ]
    refine oneU 10 rfl (by kernel_rfl) (by rfl) ?_
    go_wp2_with fail
    refine doneU (by kernel_rfl) ?_ _
    clear qc3 fc3 HSB HRD HOX HXL HSX HBS HS3 HSY HBY
    have HRT : Hid (RefTo w4 M B g { S with trial := del k S.trial, rest := del k S.rest ++ [h] } (W3.setCell ⟨g, 3, none⟩ (.slice A3 (Xr3.length + 1) c3))) := RefTo.step HM3.out HF3.out ⟨_, _, _, _, HAD.out.1⟩ (Grown.up2 HAD.out.2.2) HAD.out.2.1
    have HLN : Hid ((del k S.trial).length + (del k S.rest ++ [h]).length ≤ 999) := by
      show _ ≤ _
      rw [List.length_append, List.length_singleton]
      have := HGE.out.2
      have := HHN.out
      omega
    clear HAD HIN3 HM3 HF3 HQB HHB HNQ HOKR
    generalize W3.setCell ⟨g, 3, none⟩ (.slice A3 (Xr3.length + 1) c3) = w6 at *
    obtain ⟨S5, hS5⟩ : ∃ S5 : CS, S5 = { S with trial := del k S.trial, rest := del k S.rest ++ [h] } := ⟨_, rfl⟩
    rw [← hS5] at HRT
    have HLN5 : Hid (S5.trial.length + S5.rest.length ≤ 999) := by rw [hS5]; exact HLN.out
    have HGT : Hid (getS S k = ({ S with trial := (bal S5.share S5.rest S5.trial).1, rest := (bal S5.share S5.rest S5.trial).2 }, some h) ∧ S5.budget = S.budget ∧ S5.share = S.share) := by rw [hS5]; exact ⟨HGE.out.1, rfl, rfl⟩
    clear hS5 HLN HGE
    go_wp2_with fail
    go_loopw [] (fun wr => RGetRel w4 M B g S5 wr) (fun wr => rrest g wr)
    case atStart =>
      obtain ⟨M', a1, a2, a3⟩ := HRT.out
      exact ⟨M', S5, a1, a2, a3, rfl, rfl, HLN5.out, rfl⟩
    case round =>
      obtain ⟨M4, S4, ⟨vt4, vr4, Xt4, Xr4, h4⟩, hM4, hf4, hbu, hsh, hlen, hst⟩ := hrel
      have HI6 := hide h4
      have HM4 := hide hM4
      have HF4 := hide hf4
      have HBU := hide hbu
      have HSH := hide hsh
      have HLN := hide hlen
      have HST := hide hst
      clear h4 hM4 hf4 hbu hsh hlen hst
      obtain ⟨sh, hsh⟩ : ∃ sh, S4.share = sh := ⟨_, rfl⟩
      obtain ⟨us, hus⟩ : ∃ us, sumC S4.rest = us := ⟨_, rfl⟩
      have HK6 : Hid (∀ x, Below wr.heap.size wr x → x.cell? ⟨g, 3, none⟩ = some vr4 ∧ x.cell? ⟨g, 1, none⟩ = some (.int .i64 (sh : Int)) ∧ Calls Try.prog 47 #[vr4] x fun e w' => e = .returned (.int .i64 (us : Int)) ∧ Below x.heap.size x w') := fun x hx => by
        have hr := (HI6.out.lift hx).sum3
        rw [hus] at hr
        exact ⟨(HI6.out.lift hx).blk.cell 3, by have := (HI6.out.lift hx).blk.cell 1; rw [← hsh]; exact this, hr⟩
      obtain ⟨tl, htl⟩ : ∃ tl, decide (sh < us) = tl := ⟨_, rfl⟩
      have HTL := hide htl
      have HSE := hide hsh
      have HUE := hide hus
      clear htl hsh hus
      go_wp2_with fail
      refine wp_region_assert (listV [isV (.pointer (some ⟨g, 0, none⟩)), isV (.pointer (some ⟨g, 0, none⟩)), isV (.pointer (some ⟨g, 3, none⟩)), isV (vr4), isV (.int .i64 (us : Int)), isV (.pointer (some ⟨g, 0, none⟩)), isV (.pointer (some ⟨g, 0, none⟩)), isV (.pointer (some ⟨g, 1, none⟩)), isV (.int .i64 (sh : Int)), isV (.bool tl)]) (by kernel_rfl) (by kernel_rfl) (listV_stable ?_) ?_ ?_
      · exact ⟨isV_stable _, isV_stable _, isV_stable _, isV_stable _, isV_stable _, isV_stable _, isV_stable _, isV_stable _, isV_stable _, isV_stable _, trivial⟩
      refine ⟨fun vs wk hbk hd => ?_, fun vs wk hbk hd => ?_, fun vs wk hbk hd => ?_, fun vs wk hbk hd => ?_, fun vs wk hbk hd => ?_, fun vs wk hbk hd => ?_, fun vs wk hbk hd => ?_, fun vs wk hbk hd => ?_, fun vs wk hbk hd => ?_, fun vs wk hbk hd => ?_, trivial⟩
      -- 0: Op.move t0
      · clear hd
        go_wp2
        exact ⟨rfl, rfl, rfl, Below.refl _ _⟩
      -- 1: Op.nilCheck t31
      · simp only [Act.put, List.setIfInBounds_toArray, List.set_cons_zero, List.set_cons_succ]
        have e0 : vs 0 = .pointer (some ⟨g, 0, none⟩) := hd 0 (by kernel_rfl)
        clear hd
        go_wp2
        first | exact ⟨rfl, rfl, rfl, Below.refl _ _⟩ | exact ⟨rfl, rfl, e0, Below.refl _ _⟩
      -- 2: Op.fieldAddr 64 t32 3
      · simp only [Act.put, List.setIfInBounds_toArray, List.set_cons_zero, List.set_cons_succ, Nat.reduceAdd]
        have e1 : vs 1 = .pointer (some ⟨g, 0, none⟩) := hd 1 (by kernel_rfl)
        clear hd
        go_wp2
        first | exact ⟨rfl, rfl, rfl, Below.refl _ _⟩ | exact ⟨rfl, rfl, e1, Below.refl _ _⟩
      -- 3: Op.load 46 t33
      · simp only [Act.put, List.setIfInBounds_toArray, List.set_cons_zero, List.set_cons_succ, Nat.reduceAdd]
        have e2 : vs 2 = .pointer (some ⟨g, 3, none⟩) := hd 2 (by kernel_rfl)
        clear hd
        have hq := (HK6.out wk (undrew hbk)).1
        go_wp2
        first | exact ⟨rfl, rfl, rfl, Below.refl _ _⟩ | exact ⟨rfl, rfl, e2, Below.refl _ _⟩
      -- 4: Op.call { value (Operand.func 47), args := #[t34], argTypes := #[46] }
      · simp only [Act.put, List.setIfInBounds_toArray, List.set_cons_zero, List.set_cons_succ, Nat.reduceAdd]
        have e3 : vs 3 = vr4 := hd 3 (by kernel_rfl)
        clear hd
        have hco := (HK6.out wk (undrew hbk)).2.2
        go_wp2_with fail
        refine hco.mono ?_
        rintro e w' ⟨rfl, hb'⟩
        clear hco
        go_wp2
        exact ⟨rfl, rfl, rfl, hb'⟩
      -- 5: Op.move t0
      · simp only [Act.put, List.setIfInBounds_toArray, List.set_cons_zero, List.set_cons_succ, Nat.reduceAdd]
        clear hd
        go_wp2
        exact ⟨rfl, rfl, rfl, Below.refl _ _⟩
      -- 6: Op.nilCheck t36
      · simp only [Act.put, List.setIfInBounds_toArray, List.set_cons_zero, List.set_cons_succ, Nat.reduceAdd]
        have e5 : vs 5 = .pointer (some ⟨g, 0, none⟩) := hd 5 (by kernel_rfl)
        clear hd
        go_wp2
        first | exact ⟨rfl, rfl, rfl, Below.refl _ _⟩ | exact ⟨rfl, rfl, e5, Below.refl _ _⟩
      -- 7: Op.fieldAddr 64 t37 1
      · simp only [Act.put, List.setIfInBounds_toArray, List.set_cons_zero, List.set_cons_succ, Nat.reduceAdd]
        have e6 : vs 6 = .pointer (some ⟨g, 0, none⟩) := hd 6 (by kernel_rfl)
        clear hd
        go_wp2
        first | exact ⟨rfl, rfl, rfl, Below.refl _ _⟩ | exact ⟨rfl, rfl, e6, Below.refl _ _⟩
      -- 8: Op.load 3 t38
      · simp only [Act.put, List.setIfInBounds_toArray, List.set_cons_zero, List.set_cons_succ, Nat.reduceAdd]
        have e7 : vs 7 = .pointer (some ⟨g, 1, none⟩) := hd 7 (by kernel_rfl)
        clear hd
        have hq := (HK6.out wk (undrew hbk)).2.1
        go_wp2
        first | exact ⟨rfl, rfl, rfl, Below.refl _ _⟩ | exact ⟨rfl, rfl, e7, Below.refl _ _⟩
      -- 9: Op.binOp BinOp.gtr 3 t35 t39 3
      · simp only [Act.put, List.setIfInBounds_toArray, List.set_cons_zero, List.set_cons_succ, Nat.reduceAdd]
        have e4 : vs 4 = .int .i64 (us : Int) := hd 4 (by kernel_rfl)
        have e8 : vs 8 = .int .i64 (sh : Int) := hd 8 (by kernel_rfl)
        have htb := HTL.out
        clear hd
        go_wp2
        first | exact ⟨rfl, rfl, rfl, Below.refl _ _⟩ | exact ⟨rfl, rfl, e8, Below.refl _ _⟩ | exact ⟨rfl, rfl, e4, Below.refl _ _⟩
      intro vs wk hbk hd
      simp only [putAll, Act.put, List.setIfInBounds_toArray, List.set_cons_zero, List.set_cons_succ, Nat.reduceAdd]
      have e9 : vs 9 = .bool tl := hd 9 (by decide)
      clear hd
      simp only [e9]
      clear e9
      have HB6 := hide (undrew hbk)
      have HI7 := hide (HI6.out.lift HB6.out)
      have HF6 := hide (HF4.out.trans (Fr.of_below HB6.out M) (fun _ _ e => e))
      clear hbk HK6
      cases tl with
      | false =>
        have hd := bal_done (sh := S5.share) (r := S4.rest) (t := S4.trial) (by
          have h1 := of_decide_eq_false HTL.out
          have h2 := HUE.out
          have h3 := HSE.out
          have h4 := HSH.out
          omega)
        have HE2 : Hid (getS S k = (S4, some h)) := by
          show _ = _
          have hst := HST.out
          rw [hd] at hst
          rw [HGT.out.1, hst]
          have e : (⟨S.budget, S.share, S4.trial, S4.rest⟩ : CS) = S4 := by
            rw [← HGT.out.2.1, ← HGT.out.2.2, ← HBU.out, ← HSH.out]
          rw [← e]
        clear hd
        have hq4 := HQ4.out
        have hzb : Blk wk q4 40 heldZero := (HQX.out wk HF6.out).2
        have hst := cells_held_blk wk q4 _ _ h l hzb rfl
        have HLD3 := hide (load_held_blk wk q6 _ h l (HQX.out wk HF6.out).1)
        have HB7 : Hid (Blk (wk.setRow q4 (hcs h l).toArray) q4 40 (hcs h l).toArray) := hzb.setRow _
        have hf7 : Fr (fun q => some q4 = some q) wk (wk.setRow q4 (hcs h l).toArray) := Fr.of_grown (grown_setRow _ _ _)
        have HH7 : Hid (HeldD (wk.setRow q4 (hcs h l).toArray) (fun q => q < B) h l) := (HHX.out wk HF6.out).fr hf7 (fun q hq e => by injection e with e; omega)
        have HRF : Hid (RefTo W M B g S4 (wk.setRow q4 (hcs h l).toArray)) := by
          have hbw : Below W.heap.size W w4 := HW1.out.1.trans (HB14.out.mono HW1.out.1.size)
          have hsw := hbw.size
          exact ⟨M4, RefAt.fr ⟨vt4, vr4, Xt4, Xr4, HI7.out⟩ hf7 (fun q e => by injection e with e; exact ⟨by omega, fun k => (HNM.out M4 HM4.out).2 (e ▸ k)⟩), fun q hq => by
            rcases HM4.out q hq with k | k
            · exact .inl k
            · exact .inr (by omega), ((Fr.of_below hbw M).trans HF6.out (fun _ _ e => e)).trans hf7 (fun q hq e => by injection e with e; omega)⟩
        clear hf7 hzb hq4
        go_wp2_with (with_reducible refine wpList_load_run rfl 40 (.tmp 6) rfl HLD3.out rfl ?_)
        clear hst
        generalize wk.setRow q4 (hcs h l).toArray = W7 at *
        refine bodyPost_ret (results_cell_tmp Try.results23 (load_var_blk W7 _ _ h l HB7.out) rfl) rfl ?_
        unfold RGiven
        rw [HE2.out]
        exact ⟨⟨l, rfl, HH7.out⟩, HRF.out⟩
      | true =>
        cases hSt : S4.rest with
        | nil =>
          have e1 := of_decide_eq_true HTL.out
          have e2 := HUE.out
          rw [hSt] at e2
          simp [sumC] at e2
          omega
        | cons x0 r0 =>
          have hx0 : 0 < Xr4.length := by have := HI7.out.len.2; rw [hSt] at this; simp at this; omega
          obtain ⟨gr, c, rfl, hld⟩ := own_at HI7.out.rr 0 hx0
          have hxe : Xr4[0].1 = x0 := by
            have h1 := hds_get Xr4 0 hx0
            have h2 := HI7.out.xr
            rw [hSt] at h2
            simp only [h2] at h1
            exact h1.symm
          have HXE := hide hxe
          rw [Nat.zero_mul] at hld
          have HHB := hide (HI7.out.cr Xr4[0] (List.getElem_mem hx0))
          have HLG : Hid (∀ x, Fr (fun q => vt4.ownBlock = some q) wk x → (Instr.loadAt 40 (.pointer (some (⟨gr, 0, none⟩ : Addr)))).run Try.prog x = .ok (.agg (hcs Xr4[0].1 Xr4[0].2).toArray) x) := fun x hx => by
            have hrr : x.ownsRow 0 40 17 (.slice (some ⟨gr, 0, none⟩) Xr4.length c) Xr4.length (hrow Xr4) := hx.own HI7.out.rr (fun q hq e => HI7.out.ne q e hq)
            obtain ⟨gr', c', e', hl'⟩ := own_at hrr 0 hx0
            injection e' with e1 e2 e3
            injection e1 with e1
            injection e1 with e1
            rw [Nat.zero_mul] at hl'
            rw [e1]
            exact hl' x (Below.refl _ _)
          have HBS9 : Hid (bal S5.share S5.rest S5.trial = bal S5.share r0 (S4.trial ++ [x0])) := by
            show _ = _
            rw [HST.out, hSt]
            exact bal_step (by
              have e1 := of_decide_eq_true HTL.out
              have e2 := HUE.out
              have e3 := HSE.out
              have e4 := HSH.out
              rw [hSt] at e2
              omega)
          have hlr : S4.rest.length = r0.length + 1 := by rw [hSt]; rfl
          have HE0 : Hid (S4.rest.eraseIdx 0 = r0) := by show _ = _; rw [hSt]; rfl
          have HOKT : Hid (CS.ok { S4 with trial := S4.trial ++ [Xr4[0].1] }) := by
            have hs := HI7.out.ok
            refine ⟨hs.1, hs.2.1, ?_, fun y hy => ?_⟩
            · show (S4.trial ++ [Xr4[0].1]).length + S4.rest.length ≤ 1000
              rw [List.length_append, List.length_singleton]
              have := HLN.out
              omega
            · rcases List.mem_append.1 hy with e | e
              · rcases List.mem_append.1 e with e | e
                · exact hs.2.2.2 y (List.mem_append_left _ e)
                · rw [List.mem_singleton.1 e, HXE.out]
                  exact hs.2.2.2 x0 (List.mem_append_right _ (by rw [hSt]; exact List.mem_cons_self))
              · exact hs.2.2.2 y (List.mem_append_right _ e)
          clear hxe
          generalize Xr4[0].1 = y0 at *
          generalize Xr4[0].2 = l0 at *
          have hy0 : y0 = x0 := HXE.out
          subst hy0
          clear HXE
          have HSX : Hid (∀ x, Below wk.heap.size wk x → x.cell? ⟨g, 2, none⟩ = some vt4 ∧ x.cell? ⟨g, 3, none⟩ = some (.slice (some ⟨gr, 0, none⟩) Xr4.length c) ∧ (Instr.loadAt 40 (.pointer (some ⟨gr, 0, none⟩))).run Try.prog x = .ok (.agg (hcs y0 l0).toArray) x) := fun x hx => ⟨(HI7.out.lift hx).blk.cell 2, (HI7.out.lift hx).blk.cell 3, hld x hx⟩
          have HIN3 := HI7
          have hi2 : (0 : Int) < (Xr4.length : Int) := by omega
          clear hld
          go_wp2_with fail
          refine region_U (fun x => x.cell? ⟨g, 2, none⟩ = some vt4 ∧ x.cell? ⟨g, 3, none⟩ = some (.slice (some ⟨gr, 0, none⟩) Xr4.length c) ∧ (Instr.loadAt 40 (.pointer (some ⟨gr, 0, none⟩))).run Try.prog x = .ok (.agg (hcs y0 l0).toArray) x) 15 (by kernel_rfl) ?_
          intro Y hY
          have HBY : Hid (Below wk.heap.size wk Y) := by rw [hY]; exact (Below.refl _ _).drew
          have HSY := hide (HSX.out Y HBY.out)
          clear hY
          refine takeV 8 0 (.pointer (some ⟨g, 0, none⟩)) rfl (by kernel_rfl) (fun _ _ _ h => h) (by rfl) (fun x hS => by
            obtain ⟨s1, s2, s3⟩ := hS
            go_simp) HSY.out ?_
          simp only [Act.put, List.getElem_toArray, List.getElem_cons_succ, List.getElem_cons_zero, List.setIfInBounds_toArray, List.set_cons_zero, List.set_cons_succ]
          refine takeV 8 1 (.pointer (some ⟨g, 0, none⟩)) rfl (by kernel_rfl) (fun _ _ _ h => h) (by rfl) (fun x hS => by
            obtain ⟨s1, s2, s3⟩ := hS
            go_simp) HSY.out ?_
          simp only [Act.put, List.getElem_toArray, List.getElem_cons_succ, List.getElem_cons_zero, List.setIfInBounds_toArray, List.set_cons_zero, List.set_cons_succ]
          refine takeV 8 2 (.pointer (some ⟨g, 0, none⟩)) rfl (by kernel_rfl) (fun _ _ _ h => h) (by rfl) (fun x hS => by
            obtain ⟨s1, s2, s3⟩ := hS
            go_simp) HSY.out ?_
          simp only [Act.put, List.getElem_toArray, List.getElem_cons_succ, List.getElem_cons_zero, List.setIfInBounds_toArray, List.set_cons_zero, List.set_cons_succ]
          refine takeV 8 3 (.pointer (some ⟨g, 2, none⟩)) rfl (by kernel_rfl) (fun _ _ _ h => h) (by rfl) (fun x hS => by
            obtain ⟨s1, s2, s3⟩ := hS
            go_simp) HSY.out ?_
          simp only [Act.put, List.getElem_toArray, List.getElem_cons_succ, List.getElem_cons_zero, List.setIfInBounds_toArray, List.set_cons_zero, List.set_cons_succ]
          refine takeV 8 4 (vt4) rfl (by kernel_rfl) (fun _ _ _ h => h) (by rfl) (fun x hS => by
            obtain ⟨s1, s2, s3⟩ := hS
            go_simp) HSY.out ?_
          simp only [Act.put, List.getElem_toArray, List.getElem_cons_succ, List.getElem_cons_zero, List.setIfInBounds_toArray, List.set_cons_zero, List.set_cons_succ]
          refine takeV 8 5 (.pointer (some ⟨g, 0, none⟩)) rfl (by kernel_rfl) (fun _ _ _ h => h) (by rfl) (fun x hS => by
            obtain ⟨s1, s2, s3⟩ := hS
            go_simp) HSY.out ?_
          simp only [Act.put, List.getElem_toArray, List.getElem_cons_succ, List.getElem_cons_zero, List.setIfInBounds_toArray, List.set_cons_zero, List.set_cons_succ]
          refine takeV 8 6 (.pointer (some ⟨g, 0, none⟩)) rfl (by kernel_rfl) (fun _ _ _ h => h) (by rfl) (fun x hS => by
            obtain ⟨s1, s2, s3⟩ := hS
            go_simp) HSY.out ?_
          simp only [Act.put, List.getElem_toArray, List.getElem_cons_succ, List.getElem_cons_zero, List.setIfInBounds_toArray, List.set_cons_zero, List.set_cons_succ]
          refine takeV 8 7 (.pointer (some ⟨g, 3, none⟩)) rfl (by kernel_rfl) (fun _ _ _ h => h) (by rfl) (fun x hS => by
            obtain ⟨s1, s2, s3⟩ := hS
            go_simp) HSY.out ?_
          simp only [Act.put, List.getElem_toArray, List.getElem_cons_succ, List.getElem_cons_zero, List.setIfInBounds_toArray, List.set_cons_zero, List.set_cons_succ]
          refine takeV 8 8 (.slice (some ⟨gr, 0, none⟩) Xr4.length c) rfl (by kernel_rfl) (fun _ _ _ h => h) (by rfl) (fun x hS => by
            obtain ⟨s1, s2, s3⟩ := hS
            go_simp) HSY.out ?_
          simp only [Act.put, List.getElem_toArray, List.getElem_cons_succ, List.getElem_cons_zero, List.setIfInBounds_toArray, List.set_cons_zero, List.set_cons_succ]
          refine takeV 8 9 (.pointer (some ⟨gr, 0, none⟩)) rfl (by kernel_rfl) (fun _ _ _ h => h) (by rfl) (fun x hS => by
            obtain ⟨s1, s2, s3⟩ := hS
            go_simp) HSY.out ?_
          simp only [Act.put, List.getElem_toArray, List.getElem_cons_succ, List.getElem_cons_zero, List.setIfInBounds_toArray, List.set_cons_zero, List.set_cons_succ]
          refine takeV 8 10 (.agg (hcs y0 l0).toArray) rfl (by kernel_rfl) (fun _ _ _ h => h) (by rfl) (fun x hS => exec_load 40 (.tmp 50) rfl hS.2.2 rfl) HSY.out ?_
          simp only [Act.put, List.getElem_toArray, List.getElem_cons_succ, List.getElem_cons_zero, List.setIfInBounds_toArray, List.set_cons_zero, List.set_cons_succ]
          refine oneU 11 rfl (by kernel_rfl) (by rfl) (runU (exec_slice 46 (.tmp 51) rfl (slice_held y0 l0 Y) rfl) ?_)
          have HBS : Hid (Below wk.heap.size wk (Y.alloc (.cells (hcs y0 l0).toArray 40))) := HBY.out.alloc HBY.out.size _
          have HSB : Hid (Blk (Y.alloc (.cells (hcs y0 l0).toArray 40)) Y.heap.size 40 (hcs y0 l0).toArray) := Blk.new _ _ _
          generalize Y.alloc (.cells (hcs y0 l0).toArray 40) = X at *
          refine ⟨fun _ => HSX.out X HBS.out, ?_⟩
          simp only [Act.put, List.getElem_toArray, List.getElem_cons_succ, List.getElem_cons_zero, List.setIfInBounds_toArray, List.set_cons_zero, List.set_cons_succ]
          have HRD : Hid (Reads X X.heap.size 17 (some ⟨Y.heap.size, 0, none⟩) 1 (hcs y0 l0)) := ⟨rfl, fun _ => ⟨_, rfl, HSB.out.lt, blk_held HSB.out⟩⟩
          have HOX := hide (own_keep HIN3.out.rt HBS.out)
          have HXL : Hid (Xt4.length ≤ 1000) := by have := HIN3.out.len; have := HIN3.out.ok.2.2.1; show _ ≤ _; omega
          refine oneU 12 rfl (by kernel_rfl) (by rfl) (wp_append_any _ (.tmp 45) (.tmp 52) 46 (by rfl) 0 40 i0 z0 17 248 Try.underlying46 hi0 hz0 hz1 hz2 hz17 (by omega) vt4 Xt4.length (hrow Xt4) (by rfl) HOX.out X.heap.size (some ⟨Y.heap.size, 0, none⟩) 1 1 (hcs y0 l0) (by rfl) HRD.out hcs_one (by have := HXL.out; simp only [maxLen]; omega) (by have := HXL.out; omega) (Nat.zero_le _) ?_)
          intro v3 W3 hown3 hg3 hat3
          obtain ⟨A3, c3, e3, _⟩ := own_form hown3
          subst e3
          have HAD := hide (HIN3.out.addT y0 l0 HBS.out hg3 hown3 hat3 HHB.out HOKT.out)
          have HB3 : Hid (Blk W3 g 64 _) := ((HIN3.out.lift HBS.out).blk).grown hg3 (fun e => own_type_ne HIN3.out.rt HIN3.out.blk (by decide) g e.symm rfl)
          have HS3 : Hid (W3.cell? ⟨g, 2, none⟩ = some vt4 ∧ W3.cell? ⟨g, 3, none⟩ = some (.slice (some ⟨gr, 0, none⟩) Xr4.length c) ∧ (Instr.loadAt 40 (.pointer (some ⟨gr, 0, none⟩))).run Try.prog W3 = .ok (.agg (hcs y0 l0).toArray) W3) := ⟨HB3.out.cell 2, HB3.out.cell 3, HLG.out W3 ((Fr.of_below HBS.out _).trans (Fr.of_grown hg3) (fun _ _ e => e))⟩
          have qc3 : W3.cell? ⟨g, 2, none⟩ = some (vt4) := HB3.out.cell 2
          have fc3 := HB3.out.frozen 2
          clear hown3 hg3 hat3 HB3
          refine ⟨fun _ => HS3.out, ?_⟩
          simp only [Act.put, List.getElem_toArray, List.getElem_cons_succ, List.getElem_cons_zero, List.setIfInBounds_toArray, List.set_cons_zero, List.set_cons_succ]
          refine oneU 13 rfl (by kernel_rfl) (by rfl) (runU (v := .pointer (some ⟨g, 0, none⟩)) (x := W3) (by go_simp) ⟨fun _ => HS3.out, ?_⟩)
          simp only [Act.put, List.getElem_toArray, List.getElem_cons_succ, List.getElem_cons_zero, List.setIfInBounds_toArray, List.set_cons_zero, List.set_cons_succ]
          refine oneU 14 rfl (by kernel_rfl) (by rfl) (runU (v := .pointer (some ⟨g, 2, none⟩)) (x := W3) (by go_simp) ⟨fun _ => HS3.out, ?_⟩)
          simp only [Act.put, List.getElem_toArray, List.getElem_cons_succ, List.getElem_cons_zero, List.setIfInBounds_toArray, List.set_cons_zero, List.set_cons_succ]
          refine oneU 15 rfl (by kernel_rfl) (by rfl) ?_
          go_wp2_with fail
          refine doneU (by kernel_rfl) ?_ _
          clear qc3 fc3 HSB HRD HOX HXL HSX HBS HS3 HSY HBY
          have HM8 : Hid (∀ q, Grown M4 (.slice A3 (Xt4.length + 1) c3) q → M q ∨ w4.heap.size ≤ q) := Grown.sub HM4.out HF6.out.size HAD.out.2.2
          have HF8 : Hid (Fr M w4 (W3.setCell ⟨g, 2, none⟩ (.slice A3 (Xt4.length + 1) c3))) := HF6.out.trans HAD.out.2.1 (fun q hq e => by
            rcases HM4.out q e with k | k
            · exact k
            · omega)
          have HI8 := hide HAD.out.1
          clear HAD
          generalize W3.setCell ⟨g, 2, none⟩ (.slice A3 (Xt4.length + 1) c3) = w7 at *
          generalize (Value.slice A3 (Xt4.length + 1) c3) = v8 at *
          have HCU : Hid (Calls Try.prog 46 #[.slice (some ⟨gr, 0, none⟩) Xr4.length c, .int .i64 0] w7 (Cut3 w7 (Grown M4 v8) B g { S4 with trial := S4.trial ++ [y0] } v8 (Xt4 ++ [(y0, l0)]) Xr4 0)) := HI8.out.cut3 0 (by show 0 < S4.rest.length; omega)
          have q3 : w7.cell? ⟨g, 3, none⟩ = some (.slice (some ⟨gr, 0, none⟩) Xr4.length c) := HI8.out.blk.cell 3
          go_wp2_with fail
          refine (unhide HCU).mono ?_
          rintro e w9 ⟨A', m', c', rfl, hb9, hri, hf9, hv9⟩
          change RefIn _ _ B g { S4 with trial := S4.trial ++ [y0], rest := S4.rest.eraseIdx 0 } _ _ _ _ at hri
          rw [HE0.out] at hri
          have HREL : Hid (RGetRel w4 M B g S5 (w9.setCell ⟨g, 3, none⟩ (.slice A' m' c'))) := by
            refine ⟨Grown (Grown M4 v8) (.slice A' m' c'), { S4 with trial := S4.trial ++ [y0], rest := r0 }, ⟨_, _, _, _, hri⟩, Grown.sub HM8.out HF8.out.size (fun q hq => .inr (hv9 q hq)), HF8.out.trans hf9 (fun q hq e => by
              rcases HM8.out q e with k | k
              · exact k
              · omega), HBU.out, HSH.out, ?_, HBS9.out⟩
            show (S4.trial ++ [y0]).length + r0.length ≤ 999
            rw [List.length_append, List.length_singleton]
            have := HLN.out
            omega
          have HME : Hid (rrest g (w9.setCell ⟨g, 3, none⟩ (.slice A' m' c')) < rrest g wr) := by
            show _ < _
            rw [hri.rrest, HI6.out.rrest]
            show r0.length < S4.rest.length
            omega
          have qc : w9.cell? ⟨g, 3, none⟩ = some (.slice (some ⟨gr, 0, none⟩) Xr4.length c) := (HI8.out.lift hb9).blk.cell 3
          have fc := (HI8.out.lift hb9).blk.frozen 3
          clear hri hf9 hv9 hb9 q3 HCU
          go_wp2
          go_roundw
          case rel => exact HREL.out
          case measure => exact HME.out
end Go.Proofs.Ytjijdpdbkpknpaa
