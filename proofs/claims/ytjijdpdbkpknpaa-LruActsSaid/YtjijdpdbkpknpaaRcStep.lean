/-
  The document's cache's steps in memory: a list is cut, a response is put behind a list. No walk.
-/
import Derived.Test.YtjijdpdbkpknpaaRcCut
namespace Go.Proofs.Ytjijdpdbkpknpaa
open Go Go.RowKit

theorem own_zero {W : World} {base size n : Nat} {e : TypeId} {v : Value} {xs : List Value} (h : W.ownsRow base e size v n xs) : W.ownsRow 0 e size v n xs := by
  refine ⟨h.1, ?_⟩
  rcases h.2 with k | ⟨g, cap, cur, e1, e2, k⟩
  · exact .inl k
  · exact .inr ⟨g, cap, cur, e1, Nat.zero_le _, k⟩
section
variable {W W' X : World} {M : Nat → Prop} {B g : Nat} {S : CS} {vt vr v' : Value} {Xt Xr : List (Hd × Loc)}
def Grown (M : Nat → Prop) (v : Value) : Nat → Prop := fun q => M q ∨ v.ownBlock = some q
theorem RefIn.cutT (H : RefIn W M B g S vt vr Xt Xr) (i : Nat) (hi : i < Xt.length) (ho : W'.ownsRow W.heap.size 40 17 v' (Xt.length - 1) (hrow (Xt.eraseIdx i))) (hb : Below W.heap.size W W') :
    RefIn (W'.setCell ⟨g, 2, none⟩ v') (Grown M v') B g { S with trial := S.trial.eraseIdx i } v' vr (Xt.eraseIdx i) Xr ∧ Fr M W (W'.setCell ⟨g, 2, none⟩ v') ∧ (∀ q, v'.ownBlock = some q → W.heap.size ≤ q) := by
  have hv : ∀ q, v'.ownBlock = some q → W.heap.size ≤ q := fun q hq => (ho.lt q hq).1
  have hbd := H.bound
  refine ⟨(H.lift hb).setT (by rw [List.length_eraseIdx_of_lt hi]) (own_zero ho) (fun q hq => ⟨by have := hv q hq; omega, fun e => by have := hv q hq; have := H.low g H.own; omega, fun e => by have := hv q hq; have := H.low q (H.mr q e); omega⟩) (fun x hx => ((H.lift hb).ct x (List.mem_of_mem_eraseIdx hx))) (by rw [hds_erase, H.xt]) (CS.ok_trial H.ok (List.length_eraseIdx_le _ _) (fun x hx => List.mem_of_mem_eraseIdx hx)), (Fr.of_below hb M).trans (Fr.of_set _ _ _) (fun q _ e => by have e' : q = g := e; rw [e']; exact H.own), hv⟩
theorem RefIn.cutR (H : RefIn W M B g S vt vr Xt Xr) (i : Nat) (hi : i < Xr.length) (ho : W'.ownsRow W.heap.size 40 17 v' (Xr.length - 1) (hrow (Xr.eraseIdx i))) (hb : Below W.heap.size W W') :
    RefIn (W'.setCell ⟨g, 3, none⟩ v') (Grown M v') B g { S with rest := S.rest.eraseIdx i } vt v' Xt (Xr.eraseIdx i) ∧ Fr M W (W'.setCell ⟨g, 3, none⟩ v') ∧ (∀ q, v'.ownBlock = some q → W.heap.size ≤ q) := by
  have hv : ∀ q, v'.ownBlock = some q → W.heap.size ≤ q := fun q hq => (ho.lt q hq).1
  have hbd := H.bound
  refine ⟨(H.lift hb).setR (by rw [List.length_eraseIdx_of_lt hi]) (own_zero ho) (fun q hq => ⟨by have := hv q hq; omega, fun e => by have := hv q hq; have := H.low g H.own; omega, fun e => by have := hv q hq; have := H.low q (H.mt q e); omega⟩) (fun x hx => ((H.lift hb).cr x (List.mem_of_mem_eraseIdx hx))) (by rw [hds_erase, H.xr]) (CS.ok_rest H.ok (List.length_eraseIdx_le _ _) (fun x hx => List.mem_of_mem_eraseIdx hx)), (Fr.of_below hb M).trans (Fr.of_set _ _ _) (fun q _ e => by have e' : q = g := e; rw [e']; exact H.own), hv⟩
theorem RefIn.addT (H : RefIn W M B g S vt vr Xt Xr) (h : Hd) (l : Loc) (hb : Below W.heap.size W X) (hg : X.grownBy W' vt.ownBlock) (ho : W'.ownsRow 0 40 17 v' (Xt.length + 1) (hrow Xt ++ hcs h l)) (ha : v'.ownBlock = vt.ownBlock ∨ v'.ownBlock = some X.heap.size)
    (hh : HeldD W (fun q => q < B) h l) (hok : CS.ok { S with trial := S.trial ++ [h] }) :
    RefIn (W'.setCell ⟨g, 2, none⟩ v') (Grown M v') B g { S with trial := S.trial ++ [h] } v' vr (Xt ++ [(h, l)]) Xr ∧ Fr M W (W'.setCell ⟨g, 2, none⟩ v') ∧ (∀ q, v'.ownBlock = some q → M q ∨ W.heap.size ≤ q) := by
  have hs := hb.size
  have hbd := H.bound
  have hv : ∀ q, v'.ownBlock = some q → (vt.ownBlock = some q) ∨ q = X.heap.size := fun q hq => by
    rcases ha with e | e
    · exact .inl (e ▸ hq)
    · rw [e] at hq; injection hq with hq; exact .inr hq.symm
  have hgM : ¬ vt.ownBlock = some g := fun e => own_type_ne H.rt H.blk (by decide) g e rfl
  have hfg : Fr (fun q => vt.ownBlock = some q) X W' := Fr.of_grown hg
  have hf : Fr M W W' := (Fr.of_below hb M).trans hfg (fun q _ e => H.mt q e)
  -- the cache behind the append, its first list's row left out
  have hb2 : Blk W' g 64 (refC S.budget S.share vt vr) := hfg.blk ((H.lift hb).blk) hgM
  have hr2 : W'.ownsRow 0 40 17 vr Xr.length (hrow Xr) := hfg.own (H.lift hb).rr (fun q hq e => H.ne q e hq)
  have hc : ∀ x : Hd × Loc, HeldD W (fun q => q < B) x.1 x.2 → HeldD W' (fun q => q < B) x.1 x.2 := fun x hx => (hx.keep (Same.of_below hb fun q hq => by omega)).fr hfg (fun q hq e => by have := H.hi q (H.mt q e); omega)
  have hset := Fr.of_set W' ⟨g, 2, none⟩ v'
  have hvr : ∀ q, v'.ownBlock = some q → vr.ownBlock ≠ some q := fun q hq e => by
    rcases hv q hq with k | k
    · exact H.ne q k e
    · have := H.low q (H.mr q e); omega
  have hvg : ∀ q, v'.ownBlock = some q → q ≠ g := fun q hq e => by
    rcases hv q hq with k | k
    · exact hgM (e ▸ k)
    · have := H.low g H.own; omega
  have hrow1 : hrow (Xt ++ [(h, l)]) = hrow Xt ++ hcs h l := by rw [hrow_append, hrow_cons, hrow_nil, List.append_nil]
  refine ⟨⟨hok, fun q hq => ?_, fun q hq => ?_, .inl H.own, hb2.set_ 2 v', by rw [show hds (Xt ++ [(h, l)]) = hds Xt ++ [h] by simp [hds], H.xt], H.xr, hset.own (by rw [hrow1, List.length_append]; exact ho) (fun q hq e => hvg q hq e), hset.own hr2 (fun q hq e => own_type_ne H.rr H.blk (by decide) q hq e), fun q hq => .inr hq, fun q hq => .inl (H.mr q hq), hvr,
    fun x hx => ?_, fun x hx => ((hc x (H.cr x hx)).fr hset (fun q hq e => by have e' : q = g := e; have := H.hi g H.own; omega))⟩, hf.trans hset (fun q _ e => by have e' : q = g := e; rw [e']; exact H.own), fun q hq => ?_⟩
  · have h1 := hset.size
    have h2 := hf.size
    rcases hq with e | e
    · have := H.low q e; omega
    · have := own_lt ho q e; omega
  · rcases hq with e | e
    · exact H.hi q e
    · rcases hv q e with k | k
      · exact H.hi q (H.mt q k)
      · omega
  · refine HeldD.fr ?_ hset (fun q hq e => by have e' : q = g := e; have := H.hi g H.own; omega)
    rcases List.mem_append.1 hx with k | k
    · exact hc x (H.ct x k)
    · rw [List.mem_singleton.1 k]; exact hc (h, l) hh
  · rcases hv q hq with k | k
    · exact .inl (H.mt q k)
    · exact .inr (by omega)
theorem RefIn.addR (H : RefIn W M B g S vt vr Xt Xr) (h : Hd) (l : Loc) (hb : Below W.heap.size W X) (hg : X.grownBy W' vr.ownBlock) (ho : W'.ownsRow 0 40 17 v' (Xr.length + 1) (hrow Xr ++ hcs h l)) (ha : v'.ownBlock = vr.ownBlock ∨ v'.ownBlock = some X.heap.size)
    (hh : HeldD W (fun q => q < B) h l) (hok : CS.ok { S with rest := S.rest ++ [h] }) :
    RefIn (W'.setCell ⟨g, 3, none⟩ v') (Grown M v') B g { S with rest := S.rest ++ [h] } vt v' Xt (Xr ++ [(h, l)]) ∧ Fr M W (W'.setCell ⟨g, 3, none⟩ v') ∧ (∀ q, v'.ownBlock = some q → M q ∨ W.heap.size ≤ q) := by
  have hs := hb.size
  have hbd := H.bound
  have hv : ∀ q, v'.ownBlock = some q → (vr.ownBlock = some q) ∨ q = X.heap.size := fun q hq => by
    rcases ha with e | e
    · exact .inl (e ▸ hq)
    · rw [e] at hq; injection hq with hq; exact .inr hq.symm
  have hgM : ¬ vr.ownBlock = some g := fun e => own_type_ne H.rr H.blk (by decide) g e rfl
  have hfg : Fr (fun q => vr.ownBlock = some q) X W' := Fr.of_grown hg
  have hf : Fr M W W' := (Fr.of_below hb M).trans hfg (fun q _ e => H.mr q e)
  have hb2 : Blk W' g 64 (refC S.budget S.share vt vr) := hfg.blk ((H.lift hb).blk) hgM
  have hr2 : W'.ownsRow 0 40 17 vt Xt.length (hrow Xt) := hfg.own (H.lift hb).rt (fun q hq e => H.ne q hq e)
  have hc : ∀ x : Hd × Loc, HeldD W (fun q => q < B) x.1 x.2 → HeldD W' (fun q => q < B) x.1 x.2 := fun x hx => (hx.keep (Same.of_below hb fun q hq => by omega)).fr hfg (fun q hq e => by have := H.hi q (H.mr q e); omega)
  have hset := Fr.of_set W' ⟨g, 3, none⟩ v'
  have hvr : ∀ q, v'.ownBlock = some q → vt.ownBlock ≠ some q := fun q hq e => by
    rcases hv q hq with k | k
    · exact H.ne q e k
    · have := H.low q (H.mt q e); omega
  have hvg : ∀ q, v'.ownBlock = some q → q ≠ g := fun q hq e => by
    rcases hv q hq with k | k
    · exact hgM (e ▸ k)
    · have := H.low g H.own; omega
  have hrow1 : hrow (Xr ++ [(h, l)]) = hrow Xr ++ hcs h l := by rw [hrow_append, hrow_cons, hrow_nil, List.append_nil]
  refine ⟨⟨hok, fun q hq => ?_, fun q hq => ?_, .inl H.own, hb2.set_ 3 v', H.xt, by rw [show hds (Xr ++ [(h, l)]) = hds Xr ++ [h] by simp [hds], H.xr], hset.own hr2 (fun q hq e => own_type_ne H.rt H.blk (by decide) q hq e), hset.own (by rw [hrow1, List.length_append]; exact ho) (fun q hq e => hvg q hq e), fun q hq => .inl (H.mt q hq), fun q hq => .inr hq, fun q hq e => hvr q e hq,
    fun x hx => ((hc x (H.ct x hx)).fr hset (fun q hq e => by have e' : q = g := e; have := H.hi g H.own; omega)), fun x hx => ?_⟩, hf.trans hset (fun q _ e => by have e' : q = g := e; rw [e']; exact H.own), fun q hq => ?_⟩
  · have h1 := hset.size
    have h2 := hf.size
    rcases hq with e | e
    · have := H.low q e; omega
    · have := own_lt ho q e; omega
  · rcases hq with e | e
    · exact H.hi q e
    · rcases hv q e with k | k
      · exact H.hi q (H.mr q k)
      · omega
  · refine HeldD.fr ?_ hset (fun q hq e => by have e' : q = g := e; have := H.hi g H.own; omega)
    rcases List.mem_append.1 hx with k | k
    · exact hc x (H.cr x k)
    · rw [List.mem_singleton.1 k]; exact hc (h, l) hh
  · rcases hv q hq with k | k
    · exact .inl (H.mr q k)
    · exact .inr (by omega)
end
end Go.Proofs.Ytjijdpdbkpknpaa
