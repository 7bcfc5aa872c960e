/-
  lru's cache in memory, and what pull, push and find do to it. Conditions: each theorem's own.
-/
import Derived.Test.YtjijdpdbkpknpaaLruCopied
namespace Go.Proofs.Ytjijdpdbkpknpaa
open Go Go.RowKit

structure CS where
  budget : Nat
  share : Nat
  trial : List Hd
  rest : List Hd
def sumC (l : List Hd) : Nat := (l.map costN).sum
def hds (X : List (Hd × Loc)) : List Hd := X.map (·.1)
def CS.ok (S : CS) : Prop := S.budget ≤ 1099511627776 ∧ S.share ≤ 1099511627776 ∧ S.trial.length + S.rest.length ≤ 1000 ∧ (∀ h ∈ S.trial ++ S.rest, h.ok)
def cacheC (b s : Nat) (vt : Value) (ct : Nat) (vr : Value) (cr : Nat) : Array Value := #[.int .i64 (b : Int), .int .i64 (s : Int), vt, .int .i64 (ct : Int), vr, .int .i64 (cr : Int)]

structure CacheIn (W : World) (M C : Nat → Prop) (g : Nat) (S : CS) (vt vr : Value) (Xt Xr : List (Hd × Loc)) : Prop where
  ok : S.ok
  low : ∀ q, M q → q < W.heap.size
  own : M g
  blk : Blk W g 91 (cacheC S.budget S.share vt (sumC S.trial) vr (sumC S.rest))
  xt : hds Xt = S.trial
  xr : hds Xr = S.rest
  rt : W.ownsRow 0 40 17 vt Xt.length (hrow Xt)
  rr : W.ownsRow 0 40 17 vr Xr.length (hrow Xr)
  mt : ∀ q, vt.ownBlock = some q → M q
  mr : ∀ q, vr.ownBlock = some q → M q
  ne : ∀ q, vt.ownBlock = some q → vr.ownBlock ≠ some q
  cm : ∀ q, C q → M q ∧ q ≠ g ∧ vt.ownBlock ≠ some q ∧ vr.ownBlock ≠ some q
  ct : ∀ x ∈ Xt, HeldD W C x.1 x.2
  cr : ∀ x ∈ Xr, HeldD W C x.1 x.2

theorem hds_len (X : List (Hd × Loc)) : (hds X).length = X.length := by simp [hds]
theorem hds_erase (X : List (Hd × Loc)) (i : Nat) : hds (X.eraseIdx i) = (hds X).eraseIdx i := by
  unfold hds
  rw [List.eraseIdx_eq_take_drop_succ, List.eraseIdx_eq_take_drop_succ, List.map_append, List.map_take, List.map_drop]
theorem hds_get (X : List (Hd × Loc)) (i : Nat) (h : i < X.length) : (hds X)[i]'(by rw [hds_len]; exact h) = X[i].1 := by simp [hds]
theorem sumC_erase : ∀ (l : List Hd) (i : Nat) (h : i < l.length), sumC l = costN l[i] + sumC (l.eraseIdx i)
  | [], i, h => absurd h (by simp)
  | a :: r, 0, _ => by simp [sumC]
  | a :: r, i + 1, h => by
    have := sumC_erase r i (by simpa using h)
    simp only [sumC, List.eraseIdx_cons_succ, List.map_cons, List.sum_cons, List.getElem_cons_succ] at this ⊢
    omega
theorem sumC_append (a b : List Hd) : sumC (a ++ b) = sumC a + sumC b := by simp [sumC]
theorem sumC_le : ∀ (l : List Hd), (∀ h ∈ l, h.ok) → sumC l ≤ l.length * 1048576
  | [], _ => by simp [sumC]
  | a :: r, h => by
    have h1 := (h a List.mem_cons_self).2.2.2.2
    have := sumC_le r (fun x hx => h x (List.mem_cons_of_mem _ hx))
    simp only [sumC, List.map_cons, List.sum_cons, List.length_cons] at this ⊢
    omega
theorem CS.ok.sums {S : CS} (h : S.ok) : sumC S.trial ≤ 1048576000 ∧ sumC S.rest ≤ 1048576000 := by
  have a := sumC_le S.trial (fun x hx => h.2.2.2 x (List.mem_append_left _ hx))
  have b := sumC_le S.rest (fun x hx => h.2.2.2 x (List.mem_append_right _ hx))
  have := h.2.2.1
  omega
theorem CS.ok.erase_trial {S : CS} (h : S.ok) (i : Nat) : CS.ok { S with trial := S.trial.eraseIdx i } := ⟨h.1, h.2.1, by have := h.2.2.1; have := List.length_eraseIdx_le S.trial i; show (S.trial.eraseIdx i).length + S.rest.length ≤ _; omega, fun x hx => h.2.2.2 x (by
  rcases List.mem_append.1 hx with hx | hx
  · exact List.mem_append_left _ (List.mem_of_mem_eraseIdx hx)
  · exact List.mem_append_right _ hx)⟩
theorem CS.ok.erase_rest {S : CS} (h : S.ok) (i : Nat) : CS.ok { S with rest := S.rest.eraseIdx i } := ⟨h.1, h.2.1, by have := h.2.2.1; have := List.length_eraseIdx_le S.rest i; show S.trial.length + (S.rest.eraseIdx i).length ≤ _; omega, fun x hx => h.2.2.2 x (by
  rcases List.mem_append.1 hx with hx | hx
  · exact List.mem_append_left _ hx
  · exact List.mem_append_right _ (List.mem_of_mem_eraseIdx hx))⟩

section
variable {W W' : World} {M C : Nat → Prop} {g : Nat} {S : CS} {vt vr : Value} {Xt Xr : List (Hd × Loc)}
theorem CacheIn.same (H : CacheIn W M C g S vt vr Xt Xr) (hs : Same M W W') (hl : W.heap.size ≤ W'.heap.size) : CacheIn W' M C g S vt vr Xt Xr := by
  have hf : Fr (fun q => ¬ M q) W { W' with os := W.os, tape := W.tape, output := W.output } := ⟨rfl, rfl, rfl, hl, fun q hq hn => hs q (Classical.not_not.1 hn)⟩
  have ho : ∀ {v : Value} {X : List (Hd × Loc)}, W.ownsRow 0 40 17 v X.length (hrow X) → (∀ q, v.ownBlock = some q → M q) → W'.ownsRow 0 40 17 v X.length (hrow X) := fun h hm => hf.own h (fun q hq hn => hn (hm q hq))
  exact ⟨H.ok, fun q hq => Nat.lt_of_lt_of_le (H.low q hq) hl, H.own, (hs g H.own).trans H.blk, H.xt, H.xr, ho H.rt H.mt, ho H.rr H.mr, H.mt, H.mr, H.ne, H.cm, fun x hx => (H.ct x hx).keep (hs.weak fun q hq => (H.cm q hq).1), fun x hx => (H.cr x hx).keep (hs.weak fun q hq => (H.cm q hq).1)⟩
theorem CacheIn.lift (H : CacheIn W M C g S vt vr Xt Xr) (hb : Below W.heap.size W W') : CacheIn W' M C g S vt vr Xt Xr := H.same (Same.of_below hb H.low) hb.size
/-- more is its own -/
theorem CacheIn.wide (H : CacheIn W M C g S vt vr Xt Xr) {M2 C2 : Nat → Prop} (hM : ∀ q, M q → M2 q) (hC : ∀ q, C q → C2 q) (hl : ∀ q, M2 q → q < W.heap.size) (hcm : ∀ q, C2 q → M2 q ∧ (C q ∨ ¬ M q)) : CacheIn W M2 C2 g S vt vr Xt Xr :=
  ⟨H.ok, hl, hM _ H.own, H.blk, H.xt, H.xr, H.rt, H.rr, fun q hq => hM _ (H.mt q hq), fun q hq => hM _ (H.mr q hq), H.ne, fun q hq => by
    rcases (hcm q hq).2 with h | h
    · exact ⟨(hcm q hq).1, (H.cm q h).2⟩
    · exact ⟨(hcm q hq).1, fun e => h (e ▸ H.own), fun e => h (H.mt q e), fun e => h (H.mr q e)⟩,
   fun x hx => (H.ct x hx).weak hC, fun x hx => (H.cr x hx).weak hC⟩

theorem CacheIn.len (H : CacheIn W M C g S vt vr Xt Xr) : Xt.length = S.trial.length ∧ Xr.length = S.rest.length := by rw [← H.xt, ← H.xr, hds_len, hds_len]; exact ⟨rfl, rfl⟩

def Pull2 (W : World) (M C : Nat → Prop) (g : Nat) (S : CS) (vr : Value) (Xt Xr : List (Hd × Loc)) (i : Nat) (h : Hd) (l : Loc) (e : Ending) (W' : World) : Prop :=
  e = .returned (.agg (hcs h l).toArray) ∧ (∃ vt', CacheIn W' M C g { S with trial := S.trial.eraseIdx i } vt' vr (Xt.eraseIdx i) Xr) ∧ Fr M W W' ∧ HeldD W' C h l
def Pull4 (W : World) (M C : Nat → Prop) (g : Nat) (S : CS) (vt : Value) (Xt Xr : List (Hd × Loc)) (i : Nat) (h : Hd) (l : Loc) (e : Ending) (W' : World) : Prop :=
  e = .returned (.agg (hcs h l).toArray) ∧ (∃ vr', CacheIn W' M C g { S with rest := S.rest.eraseIdx i } vt vr' Xt (Xr.eraseIdx i)) ∧ Fr M W W' ∧ HeldD W' C h l

theorem pull_trial (H : CacheIn W M C g S vt vr Xt Xr) (i : Nat) (hi : i < Xt.length) :
    Calls Try.prog 40 #[.pointer (some ⟨g, 2, none⟩), .int .i64 (i : Int)] W (Pull2 W M C g S vr Xt Xr i Xt[i].1 Xt[i].2) := by
  have hlen := H.len.1
  have hx : Xt[i].1 = S.trial[i]'(by omega) := by rw [← hds_get Xt i hi]; simp only [H.xt]
  have hse := sumC_erase S.trial i (by omega)
  have hsum := H.ok.sums.1
  have h1000 := H.ok.2.2.1
  have hok : Xt[i].1.ok := by rw [hx]; exact H.ok.2.2.2 _ (List.mem_append_left _ (List.getElem_mem _))
  have hmem : Xt[i] ∈ Xt := List.getElem_mem hi
  refine (pull_any W g 2 (cacheC S.budget S.share vt (sumC S.trial) vr (sumC S.rest)) vt (sumC S.trial) Xt i C hi (by omega) H.blk rfl rfl H.rt (H.ct _ hmem) (fun q hq => ⟨H.low q (H.cm q hq).1, (H.cm q hq).2.1, (H.cm q hq).2.2.1⟩) hok (by rw [hx]; omega) (by omega)).mono ?_
  rintro e W' ⟨he, v', hb, ho, hv, hf⟩
  have hlt := H.rt.lt
  have hfM : Fr M W W' := hf.weak fun q _ hq => by
    rcases hq with rfl | hq
    · exact H.own
    · exact H.mt q hq
  have hD : ∀ q, C q → ¬ (q = g ∨ vt.ownBlock = some q) := fun q hq e => by
    rcases e with e | e
    · exact (H.cm q hq).2.1 e
    · exact (H.cm q hq).2.2.1 e
  have hkeep : ∀ {h l}, HeldD W C h l → HeldD W' C h l := fun hh => hh.fr hf hD
  have hle : (S.trial.eraseIdx i).length = Xt.length - 1 := by rw [List.length_eraseIdx_of_lt (by omega)]; omega
  refine ⟨he, ⟨v', H.ok.erase_trial i, fun q hq => Nat.lt_of_lt_of_le (H.low q hq) hf.size, H.own, ?_, by rw [hds_erase, H.xt], H.xr, ?_, hf.own H.rr (fun q hq e => ?_), fun q hq => H.mt q (hv ▸ hq), H.mr, fun q hq => H.ne q (hv ▸ hq), fun q hq => ⟨(H.cm q hq).1, (H.cm q hq).2.1, by rw [hv]; exact (H.cm q hq).2.2.1, (H.cm q hq).2.2.2⟩, fun x hx => hkeep (H.ct x (List.mem_of_mem_eraseIdx hx)), fun x hx => hkeep (H.cr x hx)⟩, hfM, hkeep (H.ct _ hmem)⟩
  · have e1 : sumC S.trial - costN Xt[i].1 = sumC (S.trial.eraseIdx i) := by rw [hx]; omega
    rw [e1] at hb
    exact hb
  · rw [List.length_eraseIdx_of_lt hi]
    exact ho
  · rcases e with e | e
    · subst e
      exact own_type_ne H.rr H.blk (by decide) q hq rfl
    · exact H.ne q e hq

theorem pull_rest (H : CacheIn W M C g S vt vr Xt Xr) (i : Nat) (hi : i < Xr.length) :
    Calls Try.prog 40 #[.pointer (some ⟨g, 4, none⟩), .int .i64 (i : Int)] W (Pull4 W M C g S vt Xt Xr i Xr[i].1 Xr[i].2) := by
  have hlen := H.len.2
  have hx : Xr[i].1 = S.rest[i]'(by omega) := by rw [← hds_get Xr i hi]; simp only [H.xr]
  have hse := sumC_erase S.rest i (by omega)
  have hsum := H.ok.sums.2
  have h1000 := H.ok.2.2.1
  have hok : Xr[i].1.ok := by rw [hx]; exact H.ok.2.2.2 _ (List.mem_append_right _ (List.getElem_mem _))
  have hmem : Xr[i] ∈ Xr := List.getElem_mem hi
  refine (pull_any W g 4 (cacheC S.budget S.share vt (sumC S.trial) vr (sumC S.rest)) vr (sumC S.rest) Xr i C hi (by omega) H.blk rfl rfl H.rr (H.cr _ hmem) (fun q hq => ⟨H.low q (H.cm q hq).1, (H.cm q hq).2.1, (H.cm q hq).2.2.2⟩) hok (by rw [hx]; omega) (by omega)).mono ?_
  rintro e W' ⟨he, v', hb, ho, hv, hf⟩
  have hfM : Fr M W W' := hf.weak fun q _ hq => by
    rcases hq with rfl | hq
    · exact H.own
    · exact H.mr q hq
  have hD : ∀ q, C q → ¬ (q = g ∨ vr.ownBlock = some q) := fun q hq e => by
    rcases e with e | e
    · exact (H.cm q hq).2.1 e
    · exact (H.cm q hq).2.2.2 e
  have hkeep : ∀ {h l}, HeldD W C h l → HeldD W' C h l := fun hh => hh.fr hf hD
  refine ⟨he, ⟨v', H.ok.erase_rest i, fun q hq => Nat.lt_of_lt_of_le (H.low q hq) hf.size, H.own, ?_, H.xt, by rw [hds_erase, H.xr], hf.own H.rt (fun q hq e => ?_), ?_, H.mt, fun q hq => H.mr q (hv ▸ hq), fun q hq e => H.ne q hq (hv ▸ e), fun q hq => ⟨(H.cm q hq).1, (H.cm q hq).2.1, (H.cm q hq).2.2.1, by rw [hv]; exact (H.cm q hq).2.2.2⟩, fun x hx => hkeep (H.ct x hx), fun x hx => hkeep (H.cr x (List.mem_of_mem_eraseIdx hx))⟩, hfM, hkeep (H.cr _ hmem)⟩
  · have e1 : sumC S.rest - costN Xr[i].1 = sumC (S.rest.eraseIdx i) := by rw [hx]; omega
    rw [e1] at hb
    exact hb
  · rcases e with e | e
    · subst e
      exact own_type_ne H.rt H.blk (by decide) q hq rfl
    · exact H.ne q hq e
  · rw [List.length_eraseIdx_of_lt hi]
    exact ho

def grow (M : Nat → Prop) (W W' : World) : Nat → Prop := fun q => M q ∨ (W.heap.size ≤ q ∧ q < W'.heap.size)
def Push2 (W : World) (M C : Nat → Prop) (g : Nat) (S : CS) (vr : Value) (Xt Xr : List (Hd × Loc)) (h : Hd) (l : Loc) (e : Ending) (W' : World) : Prop :=
  e = .returned (.tuple #[]) ∧ (∃ vt', CacheIn W' (grow M W W') C g { S with trial := S.trial ++ [h] } vt' vr (Xt ++ [(h, l)]) Xr) ∧ Fr M W W'
def Push4 (W : World) (M C : Nat → Prop) (g : Nat) (S : CS) (vt : Value) (Xt Xr : List (Hd × Loc)) (h : Hd) (l : Loc) (e : Ending) (W' : World) : Prop :=
  e = .returned (.tuple #[]) ∧ (∃ vr', CacheIn W' (grow M W W') C g { S with rest := S.rest ++ [h] } vt vr' Xt (Xr ++ [(h, l)])) ∧ Fr M W W'

theorem push_trial (H : CacheIn W M C g S vt vr Xt Xr) (h : Hd) (l : Loc) (hh : HeldD W C h l) (hok : h.ok) (hn : S.trial.length + S.rest.length < 1000) :
    Calls Try.prog 41 #[.pointer (some ⟨g, 2, none⟩), .agg (hcs h l).toArray] W (Push2 W M C g S vr Xt Xr h l) := by
  have hlen := H.len.1
  have hsum := H.ok.sums.1
  have h1000 := H.ok.2.2.1
  refine (push_any W g 2 (cacheC S.budget S.share vt (sumC S.trial) vr (sumC S.rest)) vt (sumC S.trial) Xt h l C (by omega) H.blk rfl rfl H.rt hh (fun q hq => ⟨H.low q (H.cm q hq).1, (H.cm q hq).2.1, (H.cm q hq).2.2.1⟩) hok (by omega)).mono ?_
  rintro e W' ⟨he, v', hb, ho, hv, hf⟩
  have hfM : Fr M W W' := hf.weak fun q _ hq => by
    rcases hq with rfl | hq
    · exact H.own
    · exact H.mt q hq
  have hD : ∀ q, C q → ¬ (q = g ∨ vt.ownBlock = some q) := fun q hq e => by
    rcases e with e | e
    · exact (H.cm q hq).2.1 e
    · exact (H.cm q hq).2.2.1 e
  have hkeep : ∀ {h l}, HeldD W C h l → HeldD W' C h l := fun hh => hh.fr hf hD
  have hv2 : ∀ q, v'.ownBlock = some q → vt.ownBlock = some q ∨ (W.heap.size ≤ q ∧ q < W'.heap.size) := fun q hq => by
    rcases hv with e | ⟨q', e, hq'⟩
    · exact .inl (e ▸ hq)
    · rw [e] at hq
      cases hq
      exact .inr ⟨hq', (ho.lt _ e).2⟩
  refine ⟨he, ⟨v', ⟨H.ok.1, H.ok.2.1, by show (S.trial ++ [h]).length + _ ≤ _; rw [List.length_append, List.length_singleton]; show S.trial.length + 1 + S.rest.length ≤ 1000; omega, fun x hx => ?_⟩, fun q hq => ?_, .inl H.own, ?_, by unfold hds; rw [List.map_append]; show hds Xt ++ [h] = _; rw [H.xt], H.xr, ?_, hf.own H.rr (fun q hq e => ?_), fun q hq => ?_, fun q hq => .inl (H.mr q hq), fun q hq e => ?_, fun q hq => ⟨.inl (H.cm q hq).1, (H.cm q hq).2.1, fun e => ?_, (H.cm q hq).2.2.2⟩, fun x hx => ?_, fun x hx => hkeep (H.cr x hx)⟩, hfM⟩
  · have hx' : x ∈ (S.trial ++ [h]) ++ S.rest := hx
    rcases List.mem_append.1 hx' with hx' | hx'
    · rcases List.mem_append.1 hx' with hx' | hx'
      · exact H.ok.2.2.2 x (List.mem_append_left _ hx')
      · rw [List.mem_singleton.1 hx']; exact hok
    · exact H.ok.2.2.2 x (List.mem_append_right _ hx')
  · rcases hq with hq | hq
    · exact Nat.lt_of_lt_of_le (H.low q hq) hf.size
    · exact hq.2
  · have e1 : sumC (S.trial ++ [h]) = sumC S.trial + costN h := by rw [sumC_append]; simp [sumC]
    show Blk W' g _ (cacheC S.budget S.share v' (sumC (S.trial ++ [h])) vr (sumC S.rest))
    rw [e1]
    exact hb
  · rw [List.length_append, List.length_singleton]
    exact ho
  · rcases e with e | e
    · subst e
      exact own_type_ne H.rr H.blk (by decide) q hq rfl
    · exact H.ne q e hq
  · rcases hv2 q hq with e | e
    · exact .inl (H.mt q e)
    · exact .inr e
  · rcases hv2 q hq with e' | e'
    · exact H.ne q e' e
    · have := H.low q (H.mr q e); omega
  · rcases hv2 q e with e' | e'
    · exact (H.cm q hq).2.2.1 e'
    · have := H.low q (H.cm q hq).1; omega
  · rcases List.mem_append.1 hx with hx | hx
    · exact hkeep (H.ct x hx)
    · rw [List.mem_singleton.1 hx]; exact hkeep hh

theorem push_rest (H : CacheIn W M C g S vt vr Xt Xr) (h : Hd) (l : Loc) (hh : HeldD W C h l) (hok : h.ok) (hn : S.trial.length + S.rest.length < 1000) :
    Calls Try.prog 41 #[.pointer (some ⟨g, 4, none⟩), .agg (hcs h l).toArray] W (Push4 W M C g S vt Xt Xr h l) := by
  have hlen := H.len.2
  have hsum := H.ok.sums.2
  have h1000 := H.ok.2.2.1
  refine (push_any W g 4 (cacheC S.budget S.share vt (sumC S.trial) vr (sumC S.rest)) vr (sumC S.rest) Xr h l C (by omega) H.blk rfl rfl H.rr hh (fun q hq => ⟨H.low q (H.cm q hq).1, (H.cm q hq).2.1, (H.cm q hq).2.2.2⟩) hok (by omega)).mono ?_
  rintro e W' ⟨he, v', hb, ho, hv, hf⟩
  have hfM : Fr M W W' := hf.weak fun q _ hq => by
    rcases hq with rfl | hq
    · exact H.own
    · exact H.mr q hq
  have hD : ∀ q, C q → ¬ (q = g ∨ vr.ownBlock = some q) := fun q hq e => by
    rcases e with e | e
    · exact (H.cm q hq).2.1 e
    · exact (H.cm q hq).2.2.2 e
  have hkeep : ∀ {h l}, HeldD W C h l → HeldD W' C h l := fun hh => hh.fr hf hD
  have hv2 : ∀ q, v'.ownBlock = some q → vr.ownBlock = some q ∨ (W.heap.size ≤ q ∧ q < W'.heap.size) := fun q hq => by
    rcases hv with e | ⟨q', e, hq'⟩
    · exact .inl (e ▸ hq)
    · rw [e] at hq
      cases hq
      exact .inr ⟨hq', (ho.lt _ e).2⟩
  refine ⟨he, ⟨v', ⟨H.ok.1, H.ok.2.1, by show _ + (S.rest ++ [h]).length ≤ _; rw [List.length_append, List.length_singleton]; show S.trial.length + (S.rest.length + 1) ≤ 1000; omega, fun x hx => ?_⟩, fun q hq => ?_, .inl H.own, ?_, H.xt, by unfold hds; rw [List.map_append]; show hds Xr ++ [h] = _; rw [H.xr], hf.own H.rt (fun q hq e => ?_), ?_, fun q hq => .inl (H.mt q hq), fun q hq => ?_, fun q hq e => ?_, fun q hq => ⟨.inl (H.cm q hq).1, (H.cm q hq).2.1, (H.cm q hq).2.2.1, fun e => ?_⟩, fun x hx => hkeep (H.ct x hx), fun x hx => ?_⟩, hfM⟩
  · have hx' : x ∈ S.trial ++ (S.rest ++ [h]) := hx
    rcases List.mem_append.1 hx' with hx' | hx'
    · exact H.ok.2.2.2 x (List.mem_append_left _ hx')
    · rcases List.mem_append.1 hx' with hx' | hx'
      · exact H.ok.2.2.2 x (List.mem_append_right _ hx')
      · rw [List.mem_singleton.1 hx']; exact hok
  · rcases hq with hq | hq
    · exact Nat.lt_of_lt_of_le (H.low q hq) hf.size
    · exact hq.2
  · have e1 : sumC (S.rest ++ [h]) = sumC S.rest + costN h := by rw [sumC_append]; simp [sumC]
    show Blk W' g _ (cacheC S.budget S.share vt (sumC S.trial) v' (sumC (S.rest ++ [h])))
    rw [e1]
    exact hb
  · rcases e with e | e
    · subst e
      exact own_type_ne H.rt H.blk (by decide) q hq rfl
    · exact H.ne q hq e
  · rw [List.length_append, List.length_singleton]
    exact ho
  · rcases hv2 q hq with e | e
    · exact .inl (H.mr q e)
    · exact .inr e
  · rcases hv2 q e with e' | e'
    · exact H.ne q hq e'
    · have := H.low q (H.mt q hq); omega
  · rcases hv2 q e with e' | e'
    · exact (H.cm q hq).2.2.2 e'
    · have := H.low q (H.cm q hq).1; omega
  · rcases List.mem_append.1 hx with hx | hx
    · exact hkeep (H.cr x hx)
    · rw [List.mem_singleton.1 hx]; exact hkeep hh

theorem own_form {v : Value} {n : Nat} {xs : List Value} {base size : Nat} {e : TypeId} (h : W.ownsRow base e size v n xs) : ∃ A c, v = .slice A n c ∧ Reads W W.heap.size size A n xs := by
  rcases h.2 with ⟨e1, h0⟩ | ⟨g', cap, cur, e1, _⟩
  · exact ⟨none, 0, by rw [e1, h0], ⟨h.1, fun hp => absurd hp (by omega)⟩⟩
  · refine ⟨_, cap, e1, ?_⟩
    rw [e1] at h
    exact Reads.of_own h
theorem find_trial (H : CacheIn W M C g S vt vr Xt Xr) (k : ByteArray) :
    Calls Try.prog 39 #[.pointer (some ⟨g, 2, none⟩), .string k] W fun e w' => e = .returned (.int .i64 (idxI k S.trial)) ∧ Below W.heap.size W w' := by
  obtain ⟨A, c, e, hr⟩ := own_form H.rt
  have := find_any k Xt A g 2 Xt.length c W.heap.size W rfl (by have := H.len.1; have := H.ok.2.2.1; omega) (Nat.le_refl _) hr (by rw [← e]; exact H.blk.cell 2)
  rw [show Xt.map (·.1) = S.trial from H.xt] at this
  exact this
theorem find_rest (H : CacheIn W M C g S vt vr Xt Xr) (k : ByteArray) :
    Calls Try.prog 39 #[.pointer (some ⟨g, 4, none⟩), .string k] W fun e w' => e = .returned (.int .i64 (idxI k S.rest)) ∧ Below W.heap.size W w' := by
  obtain ⟨A, c, e, hr⟩ := own_form H.rr
  have := find_any k Xr A g 4 Xr.length c W.heap.size W rfl (by have := H.len.2; have := H.ok.2.2.1; omega) (Nat.le_refl _) hr (by rw [← e]; exact H.blk.cell 4)
  rw [show Xr.map (·.1) = S.rest from H.xr] at this
  exact this
end
end Go.Proofs.Ytjijdpdbkpknpaa
