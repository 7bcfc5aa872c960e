/-
  The document's cache's inner calls, told by what the cache holds. No walk.
-/
import Derived.Test.YtjijdpdbkpknpaaRcStep
import Derived.Test.YtjijdpdbkpknpaaRegionAny
namespace Go.Proofs.Ytjijdpdbkpknpaa
open Go Go.RowKit

section
variable {W W' : World} {M : Nat → Prop} {B g : Nat} {S : CS} {vt vr : Value} {Xt Xr : List (Hd × Loc)}
theorem hds_ok {X : List (Hd × Loc)} {l : List Hd} (h : hds X = l) (hl : ∀ y ∈ l, y.ok) : ∀ x ∈ X, x.1.ok := fun x hx => hl _ (by rw [← h]; exact List.mem_map_of_mem hx)
theorem rsumC_le {l : List Hd} (h : ∀ x ∈ l, x.ok) : sumC l ≤ l.length * 1048576 := by
  induction l with
  | nil => simp [sumC]
  | cons x r ih =>
    have h1 := (h x List.mem_cons_self).2.2.2.2
    have h2 := ih fun y hy => h y (List.mem_cons_of_mem _ hy)
    show (sumC (x :: r)) ≤ (r.length + 1) * 1048576
    have e : sumC (x :: r) = costN x + sumC r := by simp [sumC]
    omega
theorem CS.sum_le {S : CS} (h : S.ok) : sumC S.trial + sumC S.rest ≤ 1048576000 := by
  have h1 := rsumC_le (l := S.trial) fun x hx => h.2.2.2 x (List.mem_append_left _ hx)
  have h2 := rsumC_le (l := S.rest) fun x hx => h.2.2.2 x (List.mem_append_right _ hx)
  have h3 := h.2.2.1
  omega
theorem RefIn.at2 (H : RefIn W M B g S vt vr Xt Xr) (k : ByteArray) :
    Calls Try.prog 45 #[vt, .string k] W fun e W' => e = .returned (.int .i64 (idxI k S.trial)) ∧ Below W.heap.size W W' := by
  obtain ⟨A, c, e, hr⟩ := own_form H.rt
  subst e
  have := H.len.1
  have := H.ok.2.2.1
  have h := rat_any k Xt A Xt.length c W.heap.size W rfl (by omega) (Nat.le_refl _) hr
  rw [H.xt] at h
  exact h
theorem RefIn.at3 (H : RefIn W M B g S vt vr Xt Xr) (k : ByteArray) :
    Calls Try.prog 45 #[vr, .string k] W fun e W' => e = .returned (.int .i64 (idxI k S.rest)) ∧ Below W.heap.size W W' := by
  obtain ⟨A, c, e, hr⟩ := own_form H.rr
  subst e
  have := H.len.2
  have := H.ok.2.2.1
  have h := rat_any k Xr A Xr.length c W.heap.size W rfl (by omega) (Nat.le_refl _) hr
  rw [H.xr] at h
  exact h
theorem RefIn.sum2 (H : RefIn W M B g S vt vr Xt Xr) :
    Calls Try.prog 47 #[vt] W fun e W' => e = .returned (.int .i64 ((sumC S.trial : Nat) : Int)) ∧ Below W.heap.size W W' := by
  obtain ⟨A, c, e, hr⟩ := own_form H.rt
  subst e
  have := H.len.1
  have := H.ok.2.2.1
  have hs := CS.sum_le H.ok
  have h := rsum_any Xt A Xt.length c W.heap.size B W rfl (by omega) (Nat.le_refl _) hr H.bound (fun x hx => ⟨H.ct x hx, hds_ok H.xt (fun y hy => H.ok.2.2.2 y (List.mem_append_left _ hy)) x hx⟩) (by rw [H.xt]; omega)
  rw [H.xt] at h
  exact h
theorem RefIn.sum3 (H : RefIn W M B g S vt vr Xt Xr) :
    Calls Try.prog 47 #[vr] W fun e W' => e = .returned (.int .i64 ((sumC S.rest : Nat) : Int)) ∧ Below W.heap.size W W' := by
  obtain ⟨A, c, e, hr⟩ := own_form H.rr
  subst e
  have := H.len.2
  have := H.ok.2.2.1
  have hs := CS.sum_le H.ok
  have h := rsum_any Xr A Xr.length c W.heap.size B W rfl (by omega) (Nat.le_refl _) hr H.bound (fun x hx => ⟨H.cr x hx, hds_ok H.xr (fun y hy => H.ok.2.2.2 y (List.mem_append_right _ hy)) x hx⟩) (by rw [H.xr]; omega)
  rw [H.xr] at h
  exact h
theorem RefIn.keys2 (H : RefIn W M B g S vt vr Xt Xr) : Calls Try.prog 27 #[vt] W (StrsNew W (keysOf S.trial)) := by
  obtain ⟨A, c, e, hr⟩ := own_form H.rt
  subst e
  have := H.len.1
  have := H.ok.2.2.1
  have h := rkeys_any Xt A Xt.length c W.heap.size W rfl (by omega) (Nat.le_refl _) hr
  rw [H.xt] at h
  exact h
theorem RefIn.keys3 (H : RefIn W M B g S vt vr Xt Xr) : Calls Try.prog 27 #[vr] W (StrsNew W (keysOf S.rest)) := by
  obtain ⟨A, c, e, hr⟩ := own_form H.rr
  subst e
  have := H.len.2
  have := H.ok.2.2.1
  have h := rkeys_any Xr A Xr.length c W.heap.size W rfl (by omega) (Nat.le_refl _) hr
  rw [H.xr] at h
  exact h
/-- what a list's cut leaves, when it is stored -/
def Cut2 (W : World) (M : Nat → Prop) (B g : Nat) (S : CS) (vr : Value) (Xt Xr : List (Hd × Loc)) (i : Nat) (e : Ending) (W' : World) : Prop :=
  ∃ A' m' c', e = .returned (.slice A' m' c') ∧ Below W.heap.size W W' ∧ RefIn (W'.setCell ⟨g, 2, none⟩ (.slice A' m' c')) (Grown M (.slice A' m' c')) B g { S with trial := S.trial.eraseIdx i } (.slice A' m' c') vr (Xt.eraseIdx i) Xr ∧ Fr M W (W'.setCell ⟨g, 2, none⟩ (.slice A' m' c')) ∧ (∀ q, (Value.slice A' m' c').ownBlock = some q → W.heap.size ≤ q)
def Cut3 (W : World) (M : Nat → Prop) (B g : Nat) (S : CS) (vt : Value) (Xt Xr : List (Hd × Loc)) (i : Nat) (e : Ending) (W' : World) : Prop :=
  ∃ A' m' c', e = .returned (.slice A' m' c') ∧ Below W.heap.size W W' ∧ RefIn (W'.setCell ⟨g, 3, none⟩ (.slice A' m' c')) (Grown M (.slice A' m' c')) B g { S with rest := S.rest.eraseIdx i } vt (.slice A' m' c') Xt (Xr.eraseIdx i) ∧ Fr M W (W'.setCell ⟨g, 3, none⟩ (.slice A' m' c')) ∧ (∀ q, (Value.slice A' m' c').ownBlock = some q → W.heap.size ≤ q)
theorem RefIn.cut2 (H : RefIn W M B g S vt vr Xt Xr) (i : Nat) (hi : i < S.trial.length) : Calls Try.prog 46 #[vt, .int .i64 (i : Int)] W (Cut2 W M B g S vr Xt Xr i) := by
  have hl := H.len.1
  have := H.ok.2.2.1
  refine (rcut_any Xt vt Xt.length i W rfl (by omega) (by omega) H.rt).mono ?_
  rintro e W' ⟨v', rfl, ho, hb⟩
  obtain ⟨A', c', e', _⟩ := own_form ho
  subst e'
  exact ⟨A', _, c', rfl, hb, H.cutT i (by omega) ho hb⟩
theorem RefIn.cut3 (H : RefIn W M B g S vt vr Xt Xr) (i : Nat) (hi : i < S.rest.length) : Calls Try.prog 46 #[vr, .int .i64 (i : Int)] W (Cut3 W M B g S vt Xt Xr i) := by
  have hl := H.len.2
  have := H.ok.2.2.1
  refine (rcut_any Xr vr Xr.length i W rfl (by omega) (by omega) H.rr).mono ?_
  rintro e W' ⟨v', rfl, ho, hb⟩
  obtain ⟨A', c', e', _⟩ := own_form ho
  subst e'
  exact ⟨A', _, c', rfl, hb, H.cutR i (by omega) ho hb⟩
theorem Grown.sub {M M0 : Nat → Prop} {W0 W : World} {v : Value} (h : ∀ q, M q → M0 q ∨ W0.heap.size ≤ q) (hs : W0.heap.size ≤ W.heap.size) (hv : ∀ q, v.ownBlock = some q → M q ∨ W.heap.size ≤ q) : ∀ q, Grown M v q → M0 q ∨ W0.heap.size ≤ q := fun q hq => by
  rcases hq with e | e
  · exact h q e
  · rcases hv q e with k | k
    · exact h q k
    · exact .inr (by omega)
end
end Go.Proofs.Ytjijdpdbkpknpaa
