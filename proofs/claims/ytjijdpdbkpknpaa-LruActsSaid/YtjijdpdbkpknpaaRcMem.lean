/-
  The document's cache in memory: two lists of responses, whose contents lie below B. No walk.
-/
import Derived.Test.YtjijdpdbkpknpaaLruTwo
namespace Go.Proofs.Ytjijdpdbkpknpaa
open Go Go.RowKit

def refC (b s : Nat) (vt vr : Value) : Array Value := #[.int .i64 (b : Int), .int .i64 (s : Int), vt, vr]
structure RefIn (W : World) (M : Nat → Prop) (B g : Nat) (S : CS) (vt vr : Value) (Xt Xr : List (Hd × Loc)) : Prop where
  ok : S.ok
  low : ∀ q, M q → q < W.heap.size
  hi : ∀ q, M q → B ≤ q
  own : M g
  blk : Blk W g 64 (refC S.budget S.share vt vr)
  xt : hds Xt = S.trial
  xr : hds Xr = S.rest
  rt : W.ownsRow 0 40 17 vt Xt.length (hrow Xt)
  rr : W.ownsRow 0 40 17 vr Xr.length (hrow Xr)
  mt : ∀ q, vt.ownBlock = some q → M q
  mr : ∀ q, vr.ownBlock = some q → M q
  ne : ∀ q, vt.ownBlock = some q → vr.ownBlock ≠ some q
  ct : ∀ x ∈ Xt, HeldD W (fun q => q < B) x.1 x.2
  cr : ∀ x ∈ Xr, HeldD W (fun q => q < B) x.1 x.2
def RefAt (W : World) (M : Nat → Prop) (B g : Nat) (S : CS) : Prop := ∃ vt vr Xt Xr, RefIn W M B g S vt vr Xt Xr
def RefTo (W : World) (M : Nat → Prop) (B g : Nat) (S' : CS) (W' : World) : Prop := ∃ M', RefAt W' M' B g S' ∧ (∀ q, M' q → M q ∨ W.heap.size ≤ q) ∧ Fr M W W'
section
variable {W W' W2 : World} {M O : Nat → Prop} {B g : Nat} {S S' : CS} {vt vr : Value} {Xt Xr : List (Hd × Loc)}
theorem RefIn.bound (H : RefIn W M B g S vt vr Xt Xr) : B ≤ W.heap.size := Nat.le_trans (H.hi g H.own) (Nat.le_of_lt (H.low g H.own))
theorem RefIn.fr (H : RefIn W M B g S vt vr Xt Xr) (hf : Fr O W W') (hO : ∀ q, O q → B ≤ q ∧ ¬ M q) : RefIn W' M B g S vt vr Xt Xr :=
  ⟨H.ok, fun q hq => Nat.lt_of_lt_of_le (H.low q hq) hf.size, H.hi, H.own, hf.blk H.blk (fun e => (hO _ e).2 H.own), H.xt, H.xr, hf.own H.rt (fun q hq e => (hO q e).2 (H.mt q hq)), hf.own H.rr (fun q hq e => (hO q e).2 (H.mr q hq)), H.mt, H.mr, H.ne,
    fun x hx => (H.ct x hx).fr hf (fun q hq e => by have := (hO q e).1; omega), fun x hx => (H.cr x hx).fr hf (fun q hq e => by have := (hO q e).1; omega)⟩
theorem RefIn.lift (H : RefIn W M B g S vt vr Xt Xr) (hb : Below W.heap.size W W') : RefIn W' M B g S vt vr Xt Xr := H.fr (Fr.of_below hb (fun _ => False)) (fun _ h => h.elim)
theorem RefAt.fr (H : RefAt W M B g S) (hf : Fr O W W') (hO : ∀ q, O q → B ≤ q ∧ ¬ M q) : RefAt W' M B g S := by
  obtain ⟨vt, vr, Xt, Xr, h⟩ := H
  exact ⟨vt, vr, Xt, Xr, h.fr hf hO⟩
theorem RefAt.lift (H : RefAt W M B g S) (hb : Below W.heap.size W W') : RefAt W' M B g S := H.fr (Fr.of_below hb (fun _ => False)) (fun _ h => h.elim)
theorem RefAt.low (H : RefAt W M B g S) : ∀ q, M q → B ≤ q ∧ q < W.heap.size := by
  obtain ⟨vt, vr, Xt, Xr, h⟩ := H
  exact fun q hq => ⟨h.hi q hq, h.low q hq⟩
theorem RefAt.sok (H : RefAt W M B g S) : S.ok := by
  obtain ⟨vt, vr, Xt, Xr, h⟩ := H
  exact h.ok
theorem RefTo.refl (H : RefAt W M B g S) : RefTo W M B g S W := ⟨M, H, fun _ e => .inl e, Fr.refl _ _⟩
theorem RefTo.of_below (H : RefAt W M B g S) (hb : Below W.heap.size W W') : RefTo W M B g S W' := ⟨M, H.lift hb, fun _ e => .inl e, Fr.of_below hb _⟩
theorem RefTo.lift (hb : RefTo W M B g S W') (h : Below W'.heap.size W' W2) : RefTo W M B g S W2 := by
  obtain ⟨M', a, b, c⟩ := hb
  exact ⟨M', a.lift h, b, c.trans (Fr.of_below h M) (fun _ _ e => e)⟩
/-- worlds ahead may be left out -/
theorem RefTo.below (hb : Below W.heap.size W W') (hl : ∀ q, M q → q < W.heap.size) (h : RefTo W' M B g S W2) : RefTo W M B g S W2 := by
  obtain ⟨M', a, b, c⟩ := h
  have := hb.size
  exact ⟨M', a, fun q hq => by
    rcases b q hq with e | e
    · exact .inl e
    · exact .inr (by omega), (Fr.of_below hb M).trans c (fun _ _ e => e)⟩
theorem RefTo.trans (h : RefTo W M B g S W') (k : ∀ M', RefAt W' M' B g S → RefTo W' M' B g S' W2) : RefTo W M B g S' W2 := by
  obtain ⟨M', a, b, c⟩ := h
  obtain ⟨M2, a2, b2, c2⟩ := k M' a
  have := c.size
  exact ⟨M2, a2, fun q hq => by
    rcases b2 q hq with e | e
    · exact b q e
    · exact .inr (by omega), c.trans c2 (fun q hq e => by
    rcases b q e with e | e
    · exact e
    · omega)⟩
theorem RefIn.len (H : RefIn W M B g S vt vr Xt Xr) : Xt.length = S.trial.length ∧ Xr.length = S.rest.length := by rw [← H.xt, ← H.xr, hds_len, hds_len]; exact ⟨rfl, rfl⟩
theorem own_lt {base size n : Nat} {e : TypeId} {v : Value} {xs : List Value} (h : W.ownsRow base e size v n xs) : ∀ q, v.ownBlock = some q → q < W.heap.size := fun q hq => (h.lt q hq).2
theorem RefIn.setT (H : RefIn W M B g S vt vr Xt Xr) {v' : Value} {X' : List (Hd × Loc)} {n : Nat} (hn' : n = X'.length) (ho : W.ownsRow 0 40 17 v' n (hrow X')) (hn : ∀ q, v'.ownBlock = some q → B ≤ q ∧ q ≠ g ∧ vr.ownBlock ≠ some q) (hx : ∀ x ∈ X', HeldD W (fun q => q < B) x.1 x.2)
    {t' : List Hd} (he : hds X' = t') (hok : CS.ok { S with trial := t' }) : RefIn (W.setCell ⟨g, 2, none⟩ v') (fun q => M q ∨ v'.ownBlock = some q) B g { S with trial := t' } v' vr X' Xr := by
  subst hn'
  have hb := H.bound
  have hg := H.hi g H.own
  have hf := Fr.of_set W ⟨g, 2, none⟩ v'
  refine ⟨hok, fun q hq => Nat.lt_of_lt_of_le (hq.elim (H.low q) (own_lt ho q)) hf.size, fun q hq => hq.elim (H.hi q) (fun e => (hn q e).1), .inl H.own, H.blk.set_ 2 v', he, H.xr, hf.own ho (fun q hq e => (hn q hq).2.1 e), hf.own H.rr (fun q hq e => own_type_ne H.rr H.blk (by decide) q hq e), fun q hq => .inr hq, fun q hq => .inl (H.mr q hq), fun q hq => (hn q hq).2.2,
    fun x h => (hx x h).fr hf (fun q hq e => by have e' : q = g := e; omega), fun x h => (H.cr x h).fr hf (fun q hq e => by have e' : q = g := e; omega)⟩
theorem RefIn.setR (H : RefIn W M B g S vt vr Xt Xr) {v' : Value} {X' : List (Hd × Loc)} {n : Nat} (hn' : n = X'.length) (ho : W.ownsRow 0 40 17 v' n (hrow X')) (hn : ∀ q, v'.ownBlock = some q → B ≤ q ∧ q ≠ g ∧ vt.ownBlock ≠ some q) (hx : ∀ x ∈ X', HeldD W (fun q => q < B) x.1 x.2)
    {r' : List Hd} (he : hds X' = r') (hok : CS.ok { S with rest := r' }) : RefIn (W.setCell ⟨g, 3, none⟩ v') (fun q => M q ∨ v'.ownBlock = some q) B g { S with rest := r' } vt v' Xt X' := by
  subst hn'
  have hb := H.bound
  have hg := H.hi g H.own
  have hf := Fr.of_set W ⟨g, 3, none⟩ v'
  refine ⟨hok, fun q hq => Nat.lt_of_lt_of_le (hq.elim (H.low q) (own_lt ho q)) hf.size, fun q hq => hq.elim (H.hi q) (fun e => (hn q e).1), .inl H.own, H.blk.set_ 3 v', H.xt, he, hf.own H.rt (fun q hq e => own_type_ne H.rt H.blk (by decide) q hq e), hf.own ho (fun q hq e => (hn q hq).2.1 e), fun q hq => .inl (H.mt q hq), fun q hq => .inr hq, fun q hq e => (hn q e).2.2 hq,
    fun x h => (H.ct x h).fr hf (fun q hq e => by have e' : q = g := e; omega), fun x h => (hx x h).fr hf (fun q hq e => by have e' : q = g := e; omega)⟩
end
theorem CS.ok_trial {S : CS} (h : S.ok) {t' : List Hd} (hl : t'.length ≤ S.trial.length) (hs : ∀ x ∈ t', x ∈ S.trial) : CS.ok { S with trial := t' } :=
  ⟨h.1, h.2.1, by have := h.2.2.1; show t'.length + S.rest.length ≤ 1000; omega, fun x hx => h.2.2.2 x (by
    rcases List.mem_append.1 hx with e | e
    · exact List.mem_append_left _ (hs x e)
    · exact List.mem_append_right _ e)⟩
theorem CS.ok_rest {S : CS} (h : S.ok) {r' : List Hd} (hl : r'.length ≤ S.rest.length) (hs : ∀ x ∈ r', x ∈ S.rest) : CS.ok { S with rest := r' } :=
  ⟨h.1, h.2.1, by have := h.2.2.1; show S.trial.length + r'.length ≤ 1000; omega, fun x hx => h.2.2.2 x (by
    rcases List.mem_append.1 hx with e | e
    · exact List.mem_append_left _ e
    · exact List.mem_append_right _ (hs x e))⟩
end Go.Proofs.Ytjijdpdbkpknpaa
