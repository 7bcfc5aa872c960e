/-
  The walk of lru's Put. Conditions: the cache lies as its state says, the response reads as its data.
-/
import Derived.Test.YtjijdpdbkpknpaaLruShrink
namespace Go.Proofs.Ytjijdpdbkpknpaa
open Go Go.RowKit

def del (k : ByteArray) (l : List Hd) : List Hd := l.eraseIdx (atK k l)
def has (k : ByteArray) (l : List Hd) : Bool := decide (atK k l < l.length)
theorem del_no {k : ByteArray} {l : List Hd} (h : has k l = false) : del k l = l := by
  unfold del
  exact List.eraseIdx_of_length_le (by have := of_decide_eq_false h; omega)
theorem idx_yes {k : ByteArray} {l : List Hd} (h : has k l = true) : idxI k l = (atK k l : Int) := if_pos (of_decide_eq_true h)
theorem idx_no {k : ByteArray} {l : List Hd} (h : has k l = false) : idxI k l = -1 := if_neg (of_decide_eq_false h)
def putS (S : CS) (h : Hd) : CS × List ByteArray :=
  if S.budget < costN h then ({ S with trial := del h.key S.trial, rest := del h.key S.rest }, [])
  else if has h.key S.rest then ({ S with trial := (shrinkT S.budget (del h.key S.rest ++ [h]) (del h.key S.trial)).1, rest := (shrinkT S.budget (del h.key S.rest ++ [h]) (del h.key S.trial)).2.1 }, (shrinkT S.budget (del h.key S.rest ++ [h]) (del h.key S.trial)).2.2)
  else ({ S with trial := (shrinkT S.budget (del h.key S.rest) (del h.key S.trial ++ [h])).1, rest := (shrinkT S.budget (del h.key S.rest) (del h.key S.trial ++ [h])).2.1 }, (shrinkT S.budget (del h.key S.rest) (del h.key S.trial ++ [h])).2.2)

def CacheAt (W : World) (M : Nat → Prop) (g : Nat) (S : CS) : Prop := ∃ C vt vr Xt Xr, CacheIn W M C g S vt vr Xt Xr
/-- a cache that has become another one -/
def CacheTo (W : World) (M : Nat → Prop) (g : Nat) (S' : CS) (W' : World) : Prop := ∃ M', CacheAt W' M' g S' ∧ (∀ q, M' q → M q ∨ W.heap.size ≤ q) ∧ Fr M W W'
def PutPost (W : World) (M : Nat → Prop) (g : Nat) (S : CS) (h : Hd) (e : Ending) (W' : World) : Prop :=
  ∃ A c, e = .returned (.slice A (putS S h).2.length c) ∧ ReadsD W' (fun q => W.heap.size ≤ q ∧ q < W'.heap.size) 1 A (putS S h).2.length (strs (putS S h).2) ∧ CacheTo W M g (putS S h).1 W'

/-- the cache behind so many segments -/
def putK (S : CS) (k : ByteArray) : Nat → CS
  | 0 => S
  | 1 => { S with trial := del k S.trial }
  | _ => { S with trial := del k S.trial, rest := del k S.rest }
def putTo (S : CS) (k : ByteArray) (g : Nat) : Nat → Value
  | 0 => .pointer (some ⟨g, 2, none⟩)
  | 1 => .pointer (some ⟨g, 2, none⟩)
  | _ => if has k S.rest then .pointer (some ⟨g, 4, none⟩) else .pointer (some ⟨g, 2, none⟩)
def PutRel (W : World) (M C D : Nat → Prop) (g q0 qs : Nat) (S : CS) (h : Hd) (l : Loc) (k : Nat) (w : World) : Prop :=
  (∃ vt vr Xt Xr, CacheIn w M C g (putK S h.key k) vt vr Xt Xr) ∧ Blk w q0 40 (hcs h l).toArray ∧ Blk w qs 92 #[.pointer (some ⟨g, 2, none⟩), .pointer (some ⟨g, 4, none⟩)] ∧ HeldD w D h l ∧ Fr M W w
theorem PutRel.grow {W w w' : World} {M C D : Nat → Prop} {g q0 qs k k' : Nat} {S : CS} {h : Hd} {l : Loc} (H : PutRel W M C D g q0 qs S h l k w) (hM : ∀ q, M q → q < W.heap.size) (h0 : W.heap.size ≤ q0) (hs : W.heap.size ≤ qs) (hD : ∀ q, D q → ¬ M q) (hf : Fr M w w') (hc : ∃ vt vr Xt Xr, CacheIn w' M C g (putK S h.key k') vt vr Xt Xr) :
    PutRel W M C D g q0 qs S h l k' w' := by
  obtain ⟨_, h2, h3, h4, h5⟩ := H
  exact ⟨hc, hf.blk h2 (fun e => by have := hM _ e; omega), hf.blk h3 (fun e => by have := hM _ e; omega), h4.fr hf hD, h5.trans hf (fun _ _ e => e)⟩
theorem PutRel.lift {W w w' : World} {M C D : Nat → Prop} {g q0 qs k : Nat} {S : CS} {h : Hd} {l : Loc} (H : PutRel W M C D g q0 qs S h l k w) (hb : Below w.heap.size w w') : PutRel W M C D g q0 qs S h l k w' := by
  obtain ⟨⟨vt, vr, Xt, Xr, h1⟩, h2, h3, h4, h5⟩ := H
  exact ⟨⟨vt, vr, Xt, Xr, h1.lift hb⟩, h2.below hb h2.lt, h3.below hb h3.lt, h4.fr (Fr.of_below hb (fun _ => False)) (fun _ _ => id), h5.trans (Fr.of_below hb M) (fun _ _ e => e)⟩

set_option maxRecDepth 100000 in
set_option maxHeartbeats 2000000 in
theorem put_any {W : World} {M : Nat → Prop} {g : Nat} {S : CS} (h : Hd) (l : Loc) (D : Nat → Prop) (HC : CacheAt W M g S) (hh : HeldD W D h l) (hD : ∀ q, D q → q < W.heap.size ∧ ¬ M q) (hok : h.ok) (hn : S.trial.length + S.rest.length < 1000) :
    Calls Try.prog 10 #[.pointer (some ⟨g, 0, none⟩), .agg (hcs h l).toArray] W (PutPost W M g S h) := by
  obtain ⟨C, vt, vr, Xt, Xr, H⟩ := HC
  have HLOW := hide H.low
  have HOK := hide hok
  have HDM : Hid (∀ q, D q → ¬ M q) := fun q hq => (hD q hq).2
  have HDL : Hid (∀ q, D q → q < W.heap.size) := fun q hq => (hD q hq).1
  have hbud := H.ok.1
  have HB1 : Hid (Below W.heap.size W (W.alloc (.cells (hcs h l).toArray 40)) ∧ (W.alloc (.cells (hcs h l).toArray 40)).heap.size = W.heap.size + 1) := ⟨(Below.refl _ _).alloc (Nat.le_refl _) _, by simp⟩
  have HBB : Hid (Blk (W.alloc (.cells (hcs h l).toArray 40)) W.heap.size 40 (hcs h l).toArray) := Blk.new _ _ _
  obtain ⟨W1, hA1⟩ : ∃ W1, W.alloc (.cells (hcs h l).toArray 40) = W1 := ⟨_, rfl⟩
  rw [hA1] at HB1 HBB
  have HH1 : Hid (HeldD W1 D h l) := hh.keep (Same.of_below HB1.out.1 HDL.out)
  have HC1 := hide (H.lift HB1.out.1)
  have q01 : W1.cell? ⟨W.heap.size, 0, none⟩ = some (.string h.key) := HBB.out.cell 0
  have HSG := hide (segs_any W1 g)
  clear H hh hD hok
  go_enter Try.func10, Try.ntmps10
  go_wp2_with fail
  clear hA1
  refine (unhide HSG).mono ?_
  rintro e W2 ⟨qs, rfl, hqs, hsb, hb2⟩
  have HB2 := hide hb2
  have HR0 : Hid (PutRel W M C D g W.heap.size qs S h l 0 W2) := ⟨⟨vt, vr, Xt, Xr, HC1.out.lift hb2⟩, HBB.out.below hb2 HBB.out.lt, hsb, HH1.out.fr (Fr.of_below hb2 (fun _ => False)) (fun _ _ => id), (Fr.of_below HB1.out.1 M).trans (Fr.of_below hb2 M) (fun _ _ e => e)⟩
  have hqs2 : W.heap.size ≤ qs := by have := HB1.out.2; omega
  clear hsb hb2 HC1 HH1 HBB q01 HSG
  obtain ⟨q0, hq0⟩ : ∃ q0, q0 = W.heap.size := ⟨_, rfl⟩
  have HQ0 := hide hq0
  rw [← hq0] at HR0
  have hq0le : W.heap.size ≤ q0 := by omega
  rw [← hq0]
  clear hq0
  go_wp2_with fail
  go_loopw [5, 15] (fun t i wr => ∃ k : Nat, k ≤ 2 ∧ i = .int .i64 k ∧ t = putTo S h.key g k ∧ PutRel W M C D g q0 qs S h l k wr) (fun _ i _ => 2 - (intOf i).toNat)
  case atStart => exact ⟨0, by omega, rfl, rfl, HR0.out⟩
  case round =>
    clear HR0
    obtain ⟨k, hk, rfl, rfl, hpr⟩ := hrel
    have HPR := hide hpr
    obtain ⟨⟨vt1, vr1, Xt1, Xr1, hc1⟩, hbx, hsg, -, -⟩ := hpr
    have b0 : wr.cell? ⟨q0, 0, none⟩ = some (.string h.key) := hbx.cell 0
    have s0 : wr.cell? ⟨qs, 0, none⟩ = some (.pointer (some ⟨g, 2, none⟩)) := hsg.cell 0
    have s1 : wr.cell? ⟨qs, 1, none⟩ = some (.pointer (some ⟨g, 4, none⟩)) := hsg.cell 1
    have HC := hide hc1
    clear hc1 hbx hsg
    match k, hk with
    | 0, _ =>
      have HFI := hide (find_trial HC.out h.key)
      have hlen := HC.out.len.1
      change Hid (CacheIn wr M C g S vt1 vr1 Xt1 Xr1) at HC
      change Xt1.length = S.trial.length at hlen
      change Hid (Calls _ _ _ _ fun e w' => e = .returned (.int .i64 (idxI h.key S.trial)) ∧ Below wr.heap.size wr w') at HFI
      cases hhas : has h.key S.trial with
      | true =>
        rw [idx_yes hhas] at HFI
        have hlt : atK h.key S.trial < Xt1.length := by have := of_decide_eq_true hhas; omega
        obtain ⟨hp, lp, HPL⟩ : ∃ hp lp, Hid (∀ X, Below wr.heap.size wr X → Calls Try.prog 40 #[.pointer (some ⟨g, 2, none⟩), .int .i64 ((atK h.key S.trial : Nat) : Int)] X (Pull2 X M C g S vr1 Xt1 Xr1 (atK h.key S.trial) hp lp)) := ⟨_, _, fun X hX => pull_trial (HC.out.lift hX) _ hlt⟩
        have HDE : Hid (putK S h.key 1 = { S with trial := S.trial.eraseIdx (atK h.key S.trial) }) := rfl
        clear hhas hlt hlen
        generalize hat : atK h.key S.trial = a at *
        have HAT := hide hat
        clear hat
        unfold putTo
        go_wp2_with fail
        refine (unhide HFI).mono ?_
        rintro e w1 ⟨rfl, hb1⟩
        have HBX := hide hb1
        clear hb1 HFI
        go_wp2_with fail
        refine (HPL.out w1 HBX.out).mono ?_
        rintro e w2 ⟨rfl, ⟨vt2, hc2⟩, hf2, -⟩
        have HP1 : Hid (PutRel W M C D g q0 qs S h l 1 w2) := (HPR.out.lift HBX.out).grow HLOW.out hq0le hqs2 HDM.out hf2 ⟨vt2, _, _, _, by rw [HDE.out]; exact hc2⟩
        clear hc2 hf2 HPL
        go_wp2
        go_roundw
        case rel => exact ⟨1, by omega, rfl, rfl, HP1.out⟩
        case measure => simp [intOf]
      | false =>
        rw [idx_no hhas] at HFI
        have HP0 : Hid (∀ x, PutRel W M C D g q0 qs S h l 0 x → PutRel W M C D g q0 qs S h l 1 x) := fun x hx => by
          have e : putK S h.key 1 = S := by show ({ S with trial := del h.key S.trial } : CS) = S; rw [del_no hhas]
          unfold PutRel at hx ⊢
          rw [e]
          exact hx
        clear hhas hlen
        unfold putTo
        go_wp2_with fail
        refine (unhide HFI).mono ?_
        rintro e w1 ⟨rfl, hb1⟩
        have HP1 : Hid (PutRel W M C D g q0 qs S h l 1 w1) := HP0.out w1 (HPR.out.lift hb1)
        clear hb1 HFI HP0
        go_wp2
        go_roundw
        case rel => exact ⟨1, by omega, rfl, rfl, HP1.out⟩
        case measure => simp [intOf]
    | 1, _ =>
      have HFI := hide (find_rest HC.out h.key)
      have hlen := HC.out.len.2
      change Hid (CacheIn wr M C g { S with trial := del h.key S.trial } vt1 vr1 Xt1 Xr1) at HC
      change Xr1.length = S.rest.length at hlen
      change Hid (Calls _ _ _ _ fun e w' => e = .returned (.int .i64 (idxI h.key S.rest)) ∧ Below wr.heap.size wr w') at HFI
      cases hhas : has h.key S.rest with
      | true =>
        rw [idx_yes hhas] at HFI
        have hlt : atK h.key S.rest < Xr1.length := by have := of_decide_eq_true hhas; omega
        obtain ⟨hp, lp, HPL⟩ : ∃ hp lp, Hid (∀ X, Below wr.heap.size wr X → Calls Try.prog 40 #[.pointer (some ⟨g, 4, none⟩), .int .i64 ((atK h.key S.rest : Nat) : Int)] X (Pull4 X M C g { S with trial := del h.key S.trial } vt1 Xt1 Xr1 (atK h.key S.rest) hp lp)) := ⟨_, _, fun X hX => pull_rest (HC.out.lift hX) _ hlt⟩
        have HDE : Hid (putK S h.key 2 = { S with trial := del h.key S.trial, rest := S.rest.eraseIdx (atK h.key S.rest) }) := rfl
        have HTO : Hid (putTo S h.key g 2 = .pointer (some ⟨g, 4, none⟩)) := if_pos hhas
        clear hhas hlt hlen
        generalize hat : atK h.key S.rest = a at *
        have HAT := hide hat
        clear hat
        rw [show putTo S h.key g 1 = .pointer (some ⟨g, 2, none⟩) from rfl]
        go_wp2_with fail
        refine (unhide HFI).mono ?_
        rintro e w1 ⟨rfl, hb1⟩
        have HBX := hide hb1
        clear hb1 HFI
        go_wp2_with fail
        refine (HPL.out w1 HBX.out).mono ?_
        rintro e w2 ⟨rfl, ⟨vt2, hc2⟩, hf2, -⟩
        have HP1 : Hid (PutRel W M C D g q0 qs S h l 2 w2) := (HPR.out.lift HBX.out).grow HLOW.out hq0le hqs2 HDM.out hf2 ⟨_, vt2, _, _, by rw [HDE.out]; exact hc2⟩
        clear hc2 hf2 HPL
        go_wp2
        go_roundw
        case rel => exact ⟨2, by omega, rfl, HTO.out.symm, HP1.out⟩
        case measure => simp [intOf]
      | false =>
        rw [idx_no hhas] at HFI
        have HTO : Hid (putTo S h.key g 2 = .pointer (some ⟨g, 2, none⟩)) := if_neg (by rw [hhas]; simp)
        have HP0 : Hid (∀ x, PutRel W M C D g q0 qs S h l 1 x → PutRel W M C D g q0 qs S h l 2 x) := fun x hx => by
          have e : putK S h.key 2 = putK S h.key 1 := by show ({ S with trial := del h.key S.trial, rest := del h.key S.rest } : CS) = { S with trial := del h.key S.trial }; rw [del_no hhas]
          unfold PutRel at hx ⊢
          rw [e]
          exact hx
        clear hhas hlen
        rw [show putTo S h.key g 1 = .pointer (some ⟨g, 2, none⟩) from rfl]
        go_wp2_with fail
        refine (unhide HFI).mono ?_
        rintro e w1 ⟨rfl, hb1⟩
        have HP1 : Hid (PutRel W M C D g q0 qs S h l 2 w1) := HP0.out w1 (HPR.out.lift hb1)
        clear hb1 HFI HP0
        go_wp2
        go_roundw
        case rel => exact ⟨2, by omega, rfl, HTO.out.symm, HP1.out⟩
        case measure => simp [intOf]
    | 2, _ =>
      change Hid (CacheIn wr M C g { S with trial := del h.key S.trial, rest := del h.key S.rest } vt1 vr1 Xt1 Xr1) at HC
      have hdl : (del h.key S.trial).length + (del h.key S.rest).length < 1000 := by
        have := List.length_eraseIdx_le S.trial (atK h.key S.trial)
        have := List.length_eraseIdx_le S.rest (atK h.key S.rest)
        unfold del
        omega
      have HLD : Hid (∀ x, Below wr.heap.size wr x → (Instr.loadAt 40 (.pointer (some ⟨q0, 0, none⟩))).run Try.prog x = .ok (.agg (hcs h l).toArray) x) := fun x hx => load_held_blk x _ _ h l (HPR.out.2.1.below hx HPR.out.2.1.lt)
      have HHX : Hid (∀ x, Below wr.heap.size wr x → HeldD x D h l) := fun x hx => HPR.out.2.2.2.1.fr (Fr.of_below hx (fun _ => False)) (fun _ _ => id)
      have hszr := HPR.out.2.2.2.2.size
      have HCO : Hid (∀ x, Below wr.heap.size wr x → Calls Try.prog 19 #[.agg (hcs h l).toArray] x fun e w' => e = .returned (.int .i64 (costN h : Nat)) ∧ Below x.heap.size x w') := fun x hx => by
        have := hx.size
        have := HOK.out.2.2.2.2
        exact cost_any h l W.heap.size x ((HHX.out x hx).fields.reads HDL.out) (by omega) HOK.out.2.1 (by omega)
      have HBD : Hid (∀ x, Below wr.heap.size wr x → x.cell? ⟨g, 0, none⟩ = some (.int .i64 (S.budget : Int))) := fun x hx => (HC.out.lift hx).blk.cell 0
      obtain ⟨tb, htb⟩ : ∃ tb, decide (S.budget < costN h) = tb := ⟨_, rfl⟩
      have HTB := hide htb
      clear htb
      generalize htt : putTo S h.key g 2 = tt at *
      have HTT := hide htt
      clear htt b0 s0 s1
      go_wp2_with fail
      refine wp_region_assert (listV [isV (.agg (hcs h l).toArray), isV (.int .i64 (costN h : Nat)), isV (.pointer (some ⟨g, 0, none⟩)), isV (.pointer (some ⟨g, 0, none⟩)), isV (.pointer (some ⟨g, 0, none⟩)), isV (.int .i64 (S.budget : Int)), isV (.bool tb)]) (by kernel_rfl) (by kernel_rfl) (listV_stable ?_) ?_ ?_
      · exact ⟨isV_stable _, isV_stable _, isV_stable _, isV_stable _, isV_stable _, isV_stable _, isV_stable _, trivial⟩
      refine ⟨fun vs wk hbk hd => ?_, fun vs wk hbk hd => ?_, fun vs wk hbk hd => ?_, fun vs wk hbk hd => ?_, fun vs wk hbk hd => ?_, fun vs wk hbk hd => ?_, fun vs wk hbk hd => ?_, trivial⟩
      -- 0: Op.load 40 t3
      · clear hd
        have hld := HLD.out wk (undrew hbk)
        refine wpList_load_run rfl 40 (.tmp 3) rfl hld rfl ?_
        go_wp2
        exact ⟨rfl, rfl, rfl, Below.refl _ _⟩
      -- 1: Op.call { value (Operand.func 19), args := #[t30], argTypes := #[40] }
      · simp only [Act.put, List.setIfInBounds_toArray, List.set_cons_zero, List.set_cons_succ]
        have e0 : vs 0 = .agg (hcs h l).toArray := hd 0 (by kernel_rfl)
        clear hd
        have hco := HCO.out wk (undrew hbk)
        go_wp2_with fail
        refine hco.mono ?_
        rintro e w' ⟨rfl, hb'⟩
        clear hco
        go_wp2
        exact ⟨rfl, rfl, rfl, hb'⟩
      -- 2: Op.move t0
      · simp only [Act.put, List.setIfInBounds_toArray, List.set_cons_zero, List.set_cons_succ, Nat.reduceAdd]
        clear hd
        go_wp2
        exact ⟨rfl, rfl, rfl, Below.refl _ _⟩
      -- 3: Op.nilCheck t32
      · simp only [Act.put, List.setIfInBounds_toArray, List.set_cons_zero, List.set_cons_succ, Nat.reduceAdd]
        have e2 : vs 2 = .pointer (some ⟨g, 0, none⟩) := hd 2 (by kernel_rfl)
        clear hd
        go_wp2
        first | exact ⟨rfl, rfl, rfl, Below.refl _ _⟩ | exact ⟨rfl, rfl, e2, Below.refl _ _⟩
      -- 4: Op.fieldAddr 91 t33 0
      · simp only [Act.put, List.setIfInBounds_toArray, List.set_cons_zero, List.set_cons_succ, Nat.reduceAdd]
        have e3 : vs 3 = .pointer (some ⟨g, 0, none⟩) := hd 3 (by kernel_rfl)
        clear hd
        go_wp2
        first | exact ⟨rfl, rfl, rfl, Below.refl _ _⟩ | exact ⟨rfl, rfl, e3, Below.refl _ _⟩
      -- 5: Op.load 3 t34
      · simp only [Act.put, List.setIfInBounds_toArray, List.set_cons_zero, List.set_cons_succ, Nat.reduceAdd]
        have e4 : vs 4 = .pointer (some ⟨g, 0, none⟩) := hd 4 (by kernel_rfl)
        clear hd
        have hbd := HBD.out wk (undrew hbk)
        go_wp2
        first | exact ⟨rfl, rfl, rfl, Below.refl _ _⟩ | exact ⟨rfl, rfl, e4, Below.refl _ _⟩
      -- 6: Op.binOp BinOp.gtr 3 t31 t35 3
      · simp only [Act.put, List.setIfInBounds_toArray, List.set_cons_zero, List.set_cons_succ, Nat.reduceAdd]
        have e1 : vs 1 = .int .i64 (costN h : Nat) := hd 1 (by kernel_rfl)
        have e5 : vs 5 = .int .i64 (S.budget : Int) := hd 5 (by kernel_rfl)
        have htb := HTB.out
        clear hd
        go_wp2
        first | exact ⟨rfl, rfl, rfl, Below.refl _ _⟩ | exact ⟨rfl, rfl, e5, Below.refl _ _⟩ | exact ⟨rfl, rfl, e1, Below.refl _ _⟩
      intro vs wk hbk hd
      simp only [putAll, Act.put, List.setIfInBounds_toArray, List.set_cons_zero, List.set_cons_succ, Nat.reduceAdd]
      have e6 : vs 6 = .bool tb := hd 6 (by decide)
      clear hd
      simp only [e6]
      clear e6
      have HWK := hide (undrew hbk)
      have hwk := HWK.out.size
      clear hbk
      cases tb with
      | true =>
        have hc : S.budget < costN h := of_decide_eq_true HTB.out
        have e : putS S h = ({ S with trial := del h.key S.trial, rest := del h.key S.rest }, []) := if_pos hc
        have HE := hide e
        clear e hc
        go_wp2
        go_ret
        unfold PutPost
        rw [HE.out]
        exact ⟨none, 0, rfl, ⟨rfl, fun h => absurd h (by simp)⟩, M, ⟨C, _, _, _, _, HC.out.lift HWK.out⟩, fun q hq => .inl hq, HPR.out.2.2.2.2.trans (Fr.of_below HWK.out M) (fun _ _ e => e)⟩
      | false =>
        have HC5 : Hid (¬ S.budget < costN h) := of_decide_eq_false HTB.out
        have HLD2 := hide (HLD.out wk HWK.out)
        have HCP := hide (copied_any wk h l D (HHX.out wk HWK.out) (fun q hq => by have := HDL.out q hq; omega) ⟨HOK.out.1, HOK.out.2.1, HOK.out.2.2.1, HOK.out.2.2.2.1⟩)
        have HCK := hide (HC.out.lift HWK.out)
        have HFK : Hid (Fr M W wk) := HPR.out.2.2.2.2.trans (Fr.of_below HWK.out M) (fun _ _ e => e)
        clear HLD HHX HCO HBD HC HPR HTB
        cases hhr : has h.key S.rest with
        | true =>
          obtain rfl : .pointer (some ⟨g, 4, none⟩) = tt := (if_pos hhr : putTo S h.key g 2 = _).symm.trans HTT.out
          have HE : Hid (putS S h = ({ S with trial := (shrinkT S.budget (del h.key S.rest ++ [h]) (del h.key S.trial)).1, rest := (shrinkT S.budget (del h.key S.rest ++ [h]) (del h.key S.trial)).2.1 }, (shrinkT S.budget (del h.key S.rest ++ [h]) (del h.key S.trial)).2.2)) := by
            show _ = _
            unfold putS
            rw [if_neg HC5.out, if_pos hhr]
          clear hhr HTT
          go_wp2_with (with_reducible refine wpList_load_run rfl 40 (.tmp 3) rfl HLD2.out rfl ?_)
          refine (unhide HCP).mono ?_
          rintro e w1 ⟨l', rfl, hh1, hb1⟩
          have HB1' := hide hb1
          have hw1 := hb1.size
          have HC1 : Hid (CacheIn w1 (fun q => M q ∨ (wk.heap.size ≤ q ∧ q < w1.heap.size)) (fun q => C q ∨ (wk.heap.size ≤ q ∧ q < w1.heap.size)) g { S with trial := del h.key S.trial, rest := del h.key S.rest } vt1 vr1 Xt1 Xr1) := (HCK.out.lift hb1).wide (fun q hq => .inl hq) (fun q hq => .inl hq) (fun q hq => by
            rcases hq with hq | hq
            · have := HCK.out.low q hq; omega
            · exact hq.2) (fun q hq => by
            rcases hq with hq | hq
            · exact ⟨.inl (HCK.out.cm q hq).1, .inl hq⟩
            · exact ⟨.inr hq, .inr (fun e => by have := HCK.out.low q e; omega)⟩)
          have HPS := hide (push_rest HC1.out h l' (hh1.weak (fun q hq => .inr (by omega))) HOK.out hdl)
          have HFK1 : Hid (Fr M W w1) := HFK.out.trans (Fr.of_below hb1 M) (fun _ _ e => e)
          clear hh1 hb1 HCP
          go_wp2_with fail
          refine (unhide HPS).mono ?_
          rintro e w2 ⟨rfl, ⟨vx, hc2⟩, hf2⟩
          have hw2 := hf2.size
          have HFK2 : Hid (Fr M W w2) := HFK1.out.trans hf2 (fun q hq e => by
            rcases e with e | e
            · exact e
            · omega)
          have HSK := hide (shrink_any hc2)
          clear hc2 hf2 HPS
          go_wp2_with fail
          refine (unhide HSK).mono ?_
          rintro e w3 ⟨A, c, vy, vz, Xy, Xz, rfl, hr3, hc3, hf3⟩
          have HR3 := hide hr3
          have HC3 := hide hc3
          have HF3 := hide hf3
          clear hr3 hc3 hf3 HSK
          go_wp2
          go_ret
          unfold PutPost
          rw [HE.out]
          refine ⟨A, c, rfl, HR3.out.weak (fun q hq => by omega), _, ⟨_, _, _, _, _, HC3.out⟩, fun q hq => ?_, HFK2.out.trans HF3.out (fun q hq e => ?_)⟩
          · rcases hq with (hq | hq) | hq
            · exact .inl hq
            · exact .inr (by omega)
            · exact .inr (by omega)
          · rcases e with (e | e) | e
            · exact e
            · omega
            · omega
        | false =>
          obtain rfl : .pointer (some ⟨g, 2, none⟩) = tt := (if_neg (by rw [hhr]; simp) : putTo S h.key g 2 = _).symm.trans HTT.out
          have HE : Hid (putS S h = ({ S with trial := (shrinkT S.budget (del h.key S.rest) (del h.key S.trial ++ [h])).1, rest := (shrinkT S.budget (del h.key S.rest) (del h.key S.trial ++ [h])).2.1 }, (shrinkT S.budget (del h.key S.rest) (del h.key S.trial ++ [h])).2.2)) := by
            show _ = _
            unfold putS
            rw [if_neg HC5.out, if_neg (by rw [hhr]; simp)]
          clear hhr HTT
          go_wp2_with (with_reducible refine wpList_load_run rfl 40 (.tmp 3) rfl HLD2.out rfl ?_)
          refine (unhide HCP).mono ?_
          rintro e w1 ⟨l', rfl, hh1, hb1⟩
          have HB1' := hide hb1
          have hw1 := hb1.size
          have HC1 : Hid (CacheIn w1 (fun q => M q ∨ (wk.heap.size ≤ q ∧ q < w1.heap.size)) (fun q => C q ∨ (wk.heap.size ≤ q ∧ q < w1.heap.size)) g { S with trial := del h.key S.trial, rest := del h.key S.rest } vt1 vr1 Xt1 Xr1) := (HCK.out.lift hb1).wide (fun q hq => .inl hq) (fun q hq => .inl hq) (fun q hq => by
            rcases hq with hq | hq
            · have := HCK.out.low q hq; omega
            · exact hq.2) (fun q hq => by
            rcases hq with hq | hq
            · exact ⟨.inl (HCK.out.cm q hq).1, .inl hq⟩
            · exact ⟨.inr hq, .inr (fun e => by have := HCK.out.low q e; omega)⟩)
          have HPS := hide (push_trial HC1.out h l' (hh1.weak (fun q hq => .inr (by omega))) HOK.out hdl)
          have HFK1 : Hid (Fr M W w1) := HFK.out.trans (Fr.of_below hb1 M) (fun _ _ e => e)
          clear hh1 hb1 HCP
          go_wp2_with fail
          refine (unhide HPS).mono ?_
          rintro e w2 ⟨rfl, ⟨vx, hc2⟩, hf2⟩
          have hw2 := hf2.size
          have HFK2 : Hid (Fr M W w2) := HFK1.out.trans hf2 (fun q hq e => by
            rcases e with e | e
            · exact e
            · omega)
          have HSK := hide (shrink_any hc2)
          clear hc2 hf2 HPS
          go_wp2_with fail
          refine (unhide HSK).mono ?_
          rintro e w3 ⟨A, c, vy, vz, Xy, Xz, rfl, hr3, hc3, hf3⟩
          have HR3 := hide hr3
          have HC3 := hide hc3
          have HF3 := hide hf3
          clear hr3 hc3 hf3 HSK
          go_wp2
          go_ret
          unfold PutPost
          rw [HE.out]
          refine ⟨A, c, rfl, HR3.out.weak (fun q hq => by omega), _, ⟨_, _, _, _, _, HC3.out⟩, fun q hq => ?_, HFK2.out.trans HF3.out (fun q hq e => ?_)⟩
          · rcases hq with (hq | hq) | hq
            · exact .inl hq
            · exact .inr (by omega)
            · exact .inr (by omega)
          · rcases e with (e | e) | e
            · exact e
            · omega
            · omega
end Go.Proofs.Ytjijdpdbkpknpaa
