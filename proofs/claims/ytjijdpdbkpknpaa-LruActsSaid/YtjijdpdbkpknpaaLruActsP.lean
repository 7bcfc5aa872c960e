/-
  A region that draws its order and calls both caches: what stands at each point. No walk.
-/
import Derived.Test.YtjijdpdbkpknpaaLruActsL
import Derived.Test.YtjijdpdbkpknpaaRegionPhase
namespace Go.Proofs.Ytjijdpdbkpknpaa
open Go Go.RowKit

theorem undrewF {O : Nat → Prop} {W X : World} (h : Fr O W.drew X) : Fr O W X := ⟨h.os, h.tape, h.output, h.size, h.block⟩
/-- number ic calls the cache, number ir the document's: each at most once -/
def PhC (ic ir : Nat) (W0 : World) (B gc gr : Nat) (Mc Mr : Nat → Prop) (S S' : CS) (L : Nat → Prop) (W : World) : Prop :=
  ∃ Mc1 Mr1 : Nat → Prop, (L ic → CacheAt W Mc1 gc S') ∧ (¬ L ic → CacheAt W Mc gc S ∧ Mc1 = Mc) ∧ (L ir → RefAt W Mr1 B gr S') ∧ (¬ L ir → RefAt W Mr B gr S ∧ Mr1 = Mr) ∧
    (∀ q, Mc1 q → Mc q ∨ W0.heap.size ≤ q) ∧ (∀ q, Mr1 q → Mr q ∨ W0.heap.size ≤ q) ∧ (∀ q, Mc1 q → ¬ Mr1 q) ∧ W0.heap.size ≤ W.heap.size
section
variable {ic ir : Nat} {W0 W W' : World} {B gc gr : Nat} {Mc Mr : Nat → Prop} {S S' : CS} {L : Nat → Prop}
theorem PhC.start (hc : CacheAt W0 Mc gc S) (hr : RefAt W0 Mr B gr S) (hd : ∀ q, Mc q → ¬ Mr q) : PhC ic ir W0 B gc gr Mc Mr S S' (fun _ => False) W0.drew :=
  ⟨Mc, Mr, False.elim, fun _ => ⟨hc.lift (Below.refl _ _).drew, rfl⟩, False.elim, fun _ => ⟨hr.lift (Below.refl _ _).drew, rfl⟩, fun _ e => .inl e, fun _ e => .inl e, hd, Nat.le_refl _⟩
theorem PhC.cache (H : PhC ic ir W0 B gc gr Mc Mr S S' L W) (h : ¬ L ic) : CacheAt W Mc gc S := by
  obtain ⟨Mc1, Mr1, h1, h2, h3, h4, h5, h6, h7, h8⟩ := H
  exact (h2 h).1
theorem PhC.ref (H : PhC ic ir W0 B gc gr Mc Mr S S' L W) (h : ¬ L ir) : RefAt W Mr B gr S := by
  obtain ⟨Mc1, Mr1, h1, h2, h3, h4, h5, h6, h7, h8⟩ := H
  exact (h4 h).1
theorem PhC.stay (H : PhC ic ir W0 B gc gr Mc Mr S S' L W) {k : Nat} (hk : k ≠ ic) (hk2 : k ≠ ir) (hb : Below W.heap.size W W') : PhC ic ir W0 B gc gr Mc Mr S S' (fun j => j = k ∨ L j) W' := by
  obtain ⟨Mc1, Mr1, h1, h2, h3, h4, h5, h6, h7, h8⟩ := H
  refine ⟨Mc1, Mr1, fun h => (h1 (h.resolve_left (Ne.symm hk))).lift hb, fun h => ⟨(h2 (fun e => h (.inr e))).1.lift hb, (h2 (fun e => h (.inr e))).2⟩, fun h => (h3 (h.resolve_left (Ne.symm hk2))).lift hb, fun h => ⟨(h4 (fun e => h (.inr e))).1.lift hb, (h4 (fun e => h (.inr e))).2⟩, h5, h6, h7, Nat.le_trans h8 hb.size⟩
theorem PhC.stepC (H : PhC ic ir W0 B gc gr Mc Mr S S' L W) (hne : ic ≠ ir) (hB : ∀ q, Mc q → B ≤ q) (h : ¬ L ic) {M' : Nat → Prop} (hc : CacheAt W' M' gc S') (hM : ∀ q, M' q → Mc q ∨ W.heap.size ≤ q) (hf : Fr Mc W W') : PhC ic ir W0 B gc gr Mc Mr S S' (fun j => j = ic ∨ L j) W' := by
  obtain ⟨Mc1, Mr1, h1, h2, h3, h4, h5, h6, h7, h8⟩ := H
  obtain ⟨hc0, rfl⟩ := h2 h
  have hrl : ∀ q, Mr1 q → q < W.heap.size := fun q hq => by
    by_cases hl : L ir
    · exact ((h3 hl).low q hq).2
    · obtain ⟨a, e⟩ := h4 hl
      exact (a.low q (e ▸ hq)).2
  refine ⟨M', Mr1, fun _ => hc, fun h => absurd (.inl rfl) h, fun h => (h3 (h.resolve_left (Ne.symm hne))).fr hf (fun q hq => ⟨hB q hq, h7 q hq⟩), fun h => ?_, fun q hq => ?_, h6, fun q hq e => ?_, Nat.le_trans h8 hf.size⟩
  · obtain ⟨a, e⟩ := h4 (fun e => h (.inr e))
    exact ⟨a.fr hf (fun q hq => ⟨hB q hq, fun k => h7 q hq (e ▸ k)⟩), e⟩
  · rcases hM q hq with k | k
    · exact .inl k
    · exact .inr (by omega)
  · rcases hM q hq with k | k
    · exact h7 q k e
    · have := hrl q e; omega
theorem PhC.stepR (H : PhC ic ir W0 B gc gr Mc Mr S S' L W) (hne : ic ≠ ir) (h : ¬ L ir) {M' : Nat → Prop} (hr : RefAt W' M' B gr S') (hM : ∀ q, M' q → Mr q ∨ W.heap.size ≤ q) (hf : Fr Mr W W') : PhC ic ir W0 B gc gr Mc Mr S S' (fun j => j = ir ∨ L j) W' := by
  obtain ⟨Mc1, Mr1, h1, h2, h3, h4, h5, h6, h7, h8⟩ := H
  obtain ⟨hr0, rfl⟩ := h4 h
  have hcl : ∀ q, Mc1 q → q < W.heap.size := fun q hq => by
    by_cases hl : L ic
    · exact (h1 hl).low q hq
    · obtain ⟨a, e⟩ := h2 hl
      exact a.low q (e ▸ hq)
  refine ⟨Mc1, M', fun h => (h1 (h.resolve_left hne)).fr hf (fun q hq e => h7 q e hq), fun h => ?_, fun _ => hr, fun h => absurd (.inl rfl) h, h5, fun q hq => ?_, fun q hq e => ?_, Nat.le_trans h8 hf.size⟩
  · obtain ⟨a, e⟩ := h2 (fun e => h (.inr e))
    exact ⟨a.fr hf (fun q hq k => h7 q (e ▸ k) hq), e⟩
  · rcases hM q hq with k | k
    · exact .inl k
    · exact .inr (by omega)
  · rcases hM q e with k | k
    · exact h7 q hq k
    · have := hcl q hq; omega
theorem PhC.done (H : PhC ic ir W0 B gc gr Mc Mr S S' L W) (hc : L ic) (hr : L ir) : ∃ Mc1 Mr1 : Nat → Prop, CacheAt W Mc1 gc S' ∧ RefAt W Mr1 B gr S' ∧ (∀ q, Mc1 q → Mc q ∨ W0.heap.size ≤ q) ∧ (∀ q, Mr1 q → Mr q ∨ W0.heap.size ≤ q) ∧ ∀ q, Mc1 q → ¬ Mr1 q := by
  obtain ⟨Mc1, Mr1, h1, h2, h3, h4, h5, h6, h7, h8⟩ := H
  exact ⟨Mc1, Mr1, h1 hc, h3 hr, h5, h6, h7⟩
end
/-- both caches since v0, each in its own state -/
structure CR2 (v0 : World) (B gc gr : Nat) (Mc Mr Mc1 Mr1 : Nat → Prop) (Sc Sr : CS) (W : World) : Prop where
  c : CacheAt W Mc1 gc Sc
  r : RefAt W Mr1 B gr Sr
  d : ∀ q, Mc1 q → ¬ Mr1 q
  mc : ∀ q, Mc1 q → Mc q ∨ v0.heap.size ≤ q
  mr : ∀ q, Mr1 q → Mr q ∨ v0.heap.size ≤ q
  f : Fr (fun q => Mc q ∨ Mr q) v0 W
section
variable {v0 W W' w : World} {B gc gr b i : Nat} {Mc Mr Mc1 Mr1 M' O : Nat → Prop} {Sc Sr S2 S1 : CS}
theorem CR2.start (hc : CacheAt v0 Mc gc Sc) (hr : RefAt v0 Mr B gr Sr) (hd : ∀ q, Mc q → ¬ Mr q) : CR2 v0 B gc gr Mc Mr Mc Mr Sc Sr v0 := ⟨hc, hr, hd, fun _ e => .inl e, fun _ e => .inl e, Fr.refl _ _⟩
theorem CR2.lift (H : CR2 v0 B gc gr Mc Mr Mc1 Mr1 Sc Sr W) (hb : Below W.heap.size W W') : CR2 v0 B gc gr Mc Mr Mc1 Mr1 Sc Sr W' :=
  ⟨H.c.lift hb, H.r.lift hb, H.d, H.mc, H.mr, H.f.trans (Fr.of_below hb _) (fun _ _ e => e)⟩
theorem CR2.fr (H : CR2 v0 B gc gr Mc Mr Mc1 Mr1 Sc Sr W) (hf : Fr O W W') (hO : ∀ q, O q → ¬ Mc1 q ∧ ¬ Mr1 q ∧ v0.heap.size ≤ q) (hB : B ≤ v0.heap.size) : CR2 v0 B gc gr Mc Mr Mc1 Mr1 Sc Sr W' :=
  ⟨H.c.fr hf (fun q hq => (hO q hq).1), H.r.fr hf (fun q hq => ⟨Nat.le_trans hB (hO q hq).2.2, (hO q hq).2.1⟩), H.d, H.mc, H.mr, H.f.trans hf (fun q hq e => by have := (hO q e).2.2; omega)⟩
theorem CR2.stepC (H : CR2 v0 B gc gr Mc Mr Mc1 Mr1 Sc Sr W) (hB : ∀ q, Mc q → B ≤ q) (hB0 : B ≤ v0.heap.size) (hc : CacheAt W' M' gc S2) (hM : ∀ q, M' q → Mc1 q ∨ W.heap.size ≤ q) (hf : Fr Mc1 W W') : CR2 v0 B gc gr Mc Mr M' Mr1 S2 Sr W' := by
  have hs := H.f.size
  refine ⟨hc, H.r.fr hf (fun q hq => ⟨?_, H.d q hq⟩), fun q hq e => ?_, fun q hq => ?_, H.mr, H.f.trans hf (fun q hq e => ?_)⟩
  · rcases H.mc q hq with k | k
    · exact hB q k
    · omega
  · rcases hM q hq with k | k
    · exact H.d q k e
    · have := (H.r.low q e).2; omega
  · rcases hM q hq with k | k
    · exact H.mc q k
    · exact .inr (by omega)
  · rcases H.mc q e with k | k
    · exact .inl k
    · omega
theorem CR2.stepR (H : CR2 v0 B gc gr Mc Mr Mc1 Mr1 Sc Sr W) (hr : RefAt W' M' B gr S2) (hM : ∀ q, M' q → Mr1 q ∨ W.heap.size ≤ q) (hf : Fr Mr1 W W') : CR2 v0 B gc gr Mc Mr Mc1 M' Sc S2 W' := by
  have hs := H.f.size
  refine ⟨H.c.fr hf (fun q hq e => H.d q e hq), hr, fun q hq e => ?_, H.mc, fun q hq => ?_, H.f.trans hf (fun q hq e => ?_)⟩
  · rcases hM q e with k | k
    · exact H.d q hq k
    · have := H.c.low q hq; omega
  · rcases hM q hq with k | k
    · exact H.mr q k
    · exact .inr (by omega)
  · rcases H.mr q e with k | k
    · exact .inr k
    · omega
theorem CR2.acts (H : CR2 v0 B gc gr Mc Mr Mc1 Mr1 S1 S1 W) (hbw : Below B w v0) (hB : ∀ q, Mc q → B ≤ q) (hR : ∀ q, Mr q → B ≤ q) (hB0 : B ≤ v0.heap.size) (h1 : S1.nd) (h2 : S1.len ≤ i) (h3 : S1.budget = b) (h4 : sumC S1.trial + sumC S1.rest ≤ b) : ActsRel B w gc gr b i W := by
  refine ⟨S1, ⟨Mc1, Mr1, H.c, H.r, H.d, fun q hq => ?_, hbw.trans (H.f.below hB0 (fun q e => e.elim (hB q) (hR q)))⟩, h1, h2, h3, h4⟩
  rcases H.mc q hq with k | k
  · exact hB q k
  · omega
end
theorem thawed_frozen {W : World} {ad : Addr} (h : Thawed W ad.block) : W.frozen? ad = false := by
  obtain ⟨cs, t, e⟩ := h
  unfold World.frozen?
  rw [e]
  simp
/-- an octet is written that belongs to neither -/
theorem bump_rel {W w : World} {B gc gr b i : Nat} {Mc1 Mr1 : Nat → Prop} {S1 : CS} (hc : CacheAt W Mc1 gc S1) (hr : RefAt W Mr1 B gr S1) (hd : ∀ q, Mc1 q → ¬ Mr1 q) (hB : ∀ q, Mc1 q → B ≤ q) (hbw : Below B w W) (ad : Addr) (h1 : ¬ Mc1 ad.block) (h2 : ¬ Mr1 ad.block) (h3 : B ≤ ad.block)
    (hBW : B ≤ W.heap.size) (n1 : S1.nd) (n2 : S1.len ≤ i) (n3 : S1.budget = b) (n4 : sumC S1.trial + sumC S1.rest ≤ b) (u : Value) : ActsRel B w gc gr b i (W.setCell ad u) := by
  have hf := Fr.of_set W ad u
  exact ⟨S1, ⟨Mc1, Mr1, hc.fr hf (fun q hq e => h1 (hq ▸ e)), hr.fr hf (fun q hq => by have e : q = ad.block := hq; subst e; exact ⟨h3, h2⟩), hd, hB, hbw.trans (hf.below hBW (fun q hq => by have e : q = ad.block := hq; omega))⟩, n1, n2, n3, n4⟩
/-- what the loop over the keys keeps -/
def GetsRel (v0 : World) (B gc gr : Nat) (Mc Mr : Nat → Prop) (b j : Nat) (W : World) : Prop := ∃ Mc1 Mr1 S1, CR2 v0 B gc gr Mc Mr Mc1 Mr1 S1 S1 W ∧ S1.nd ∧ S1.len ≤ j ∧ S1.budget = b ∧ S1.sum ≤ b
end Go.Proofs.Ytjijdpdbkpknpaa
